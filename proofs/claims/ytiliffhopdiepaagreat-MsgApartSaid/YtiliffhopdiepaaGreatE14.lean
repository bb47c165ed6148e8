/- The engine, part 14: VRow, VBr. -/
import Derived.WalkKit
import Derived.ProofKit
import Derived.OpenShut
import Derived.ShutString
import Derived.ChangeOld
import Derived.SizedLaws
import Derived.Carry
import Derived.Below
import Derived.Deep.Slices
import Derived.Test.YtiliffhopdiepaaGreatE11
namespace Go.E2
open Go.RowKit Go.ChangeShapes Go.WideShapes
set_option linter.unusedVariables false
set_option linter.unusedSimpArgs false
variable {P : Program}
def allOf (w : World) : Gh := fun b o => w.cell? ⟨b, o, none⟩
theorem cell_spot {w : World} {a : Addr} {v : Value} (h : w.cell? a = some v) : a = ⟨a.block, a.off, none⟩ := by
  cases a with
  | mk b o s =>
    cases s with
    | none => rfl
    | some s =>
      unfold World.cell? at h
      split at h <;> simp at h
theorem add_mk (b o i : Nat) : (⟨b, o, none⟩ : Addr).add i = ⟨b, o + i, none⟩ := by
  unfold Addr.add
  split
  · rename_i h; subst h; rfl
  · rfl
def Opens (P : Program) (t : TypeId) {α : Type} (enc : α → List PV) (Q : α → Prop) : Prop :=
  ∀ {H : Type} {he : TypeId × Value → H} {w : World} {base : Nat} {spare : Nat → Bool} {held : Bool} {n : Nat} {cs : List Value} {y : DataW H × List MemPlace}, DataW.trod he P w base spare held n t cs = some y →
    ∃ x, Q x ∧ cs.length = (enc x).length ∧ ∀ i p, (enc x)[i]? = some p → Rep (allOf w) p (cs.getD i undef)
def I64q (x : Int) : Prop := -9223372036854775808 ≤ x ∧ x ≤ 9223372036854775807
theorem wf64q {x : Int} (h : (Lit.int .i64 x).wf = true) : I64q x := by
  simp [Lit.wf, IntKind.min, IntKind.max, IntKind.bits, IntKind.signed] at h
  unfold I64q
  omega
theorem one_rep {G : Gh} {q : PV} {v : Value} (h : Rep G q v) : ∀ i p, ([q] : List PV)[i]? = some p → Rep G p (([v] : List Value).getD i undef) := fun i p hp => by
  match i, hp with
  | 0, hp => cases hp; exact h
theorem opens_str {t : TypeId} (ht : P.underlying t = some .string) : Opens P t encS (fun _ => True) := fun h => by
  obtain ⟨s, rfl, _⟩ := DataW.trod_string ht h
  exact ⟨s, trivial, rfl, one_rep (.str s)⟩
theorem opens_int {t : TypeId} (ht : P.underlying t = some (.int .i64)) : Opens P t encZ I64q := fun h => by
  obtain ⟨s, rfl, _, hw⟩ := DataW.trod_int ht h
  exact ⟨s, wf64q hw, rfl, one_rep (.int _ s)⟩
theorem opens_bool {t : TypeId} (ht : P.underlying t = some .bool) : Opens P t (fun b : Bool => [.bool b]) (fun _ => True) := fun h => by
  obtain ⟨s, rfl, _⟩ := DataW.trod_bool ht h
  exact ⟨s, trivial, rfl, one_rep (.bool s)⟩
theorem opens_slice {t e : TypeId} {α : Type} [Inhabited α] {enc : α → List PV} {Q : α → Prop} {k : Nat} (ht : P.underlying t = some (.slice e)) (hc : P.cellsOf e = k) (hk : 0 < k) (he : Opens P e enc Q) (hl : ∀ x, (enc x).length = k) :
    Opens P t (fun l : List α => [.list k (l.map enc)]) (fun l => ∀ x ∈ l, Q x) := fun {H hen w base spare held n cs y} h => by
  rcases Go.Deep.open_slice ht h with ⟨rfl, _⟩ | ⟨ad, len, cap, m, n, D, Pl, rfl, _, hlc, hm, hmm, _, hx⟩
  · exact ⟨[], by simp, rfl, one_rep (.nil k none 0)⟩
  · have hlm : len ≤ m := by rw [hmm]; split <;> omega
    obtain ⟨f, hf⟩ := Go.Deep.choose_lt (α := α) (n := len) (p := fun i p => ∃ cs', w.cells? base (ad.add (i * P.cellsOf e)) (P.cellsOf e) = some cs' ∧ Q p ∧ ∀ j q, (enc p)[j]? = some q → Rep (allOf w) q (cs'.getD j undef)) (fun i hi => by
      obtain ⟨cs', h1, h2⟩ := hx i (by omega)
      obtain ⟨p, hp, _, hq⟩ := he h2
      exact ⟨p, cs', h1, hp, hq⟩)
    refine ⟨(List.range len).map f, fun x hx => ?_, rfl, one_rep ?_⟩
    · obtain ⟨j, hj, rfl⟩ := List.mem_map.1 hx
      obtain ⟨_, _, hq, _⟩ := hf j (List.mem_range.1 hj)
      exact hq
    · rcases Nat.eq_zero_or_pos len with h0 | h0
      · subst h0
        exact .nil k _ _
      · have cell : ∀ j, j < len → ∀ i, i < k → ∃ v, w.cell? (ad.add (j * k + i)) = some v ∧ ∀ q, (enc (f j))[i]? = some q → Rep (allOf w) q v := fun j hj i hi => by
          obtain ⟨cs', h1, _, h3⟩ := hf j hj
          rw [hc] at h1
          obtain ⟨_, hlen, hcell⟩ := World.cells?_some h1
          have := hcell i (by omega)
          rw [Go.Deep.add_add] at this
          refine ⟨cs'.getD i undef, ?_, h3 i⟩
          rw [this, List.getD_eq_getElem?_getD, List.getElem?_eq_getElem (by omega)]
          rfl
        obtain ⟨v0, c0, _⟩ := cell 0 h0 0 hk
        have had : ad = ⟨ad.block, ad.off, none⟩ := cell_spot (a := ad) (by simpa [Addr.add] using c0)
        have hr := Rep.list (G := allOf w) k (((List.range len).map f).map enc) ad.block ad.off cap (fun j i => (w.cell? (ad.add (j * k + i))).getD undef) (by simp; omega)
          (fun j y hy => by
            obtain ⟨z, _, rfl⟩ := map_get hy
            exact hl z)
          (fun j y i z hy hz => by
            obtain ⟨q, hq, rfl⟩ := map_get hy
            obtain ⟨jj, hjj, rfl⟩ := map_get hq
            obtain ⟨hj, e1⟩ := List.getElem?_eq_some_iff.1 hjj
            simp at hj e1
            subst e1
            have hi := (List.getElem?_eq_some_iff.1 hz).1
            rw [hl] at hi
            obtain ⟨v, h1, _⟩ := cell j hj i hi
            rw [h1]
            rw [had, add_mk] at h1
            rw [Nat.add_assoc]
            exact h1)
          (fun j y i z hy hz => by
            obtain ⟨q, hq, rfl⟩ := map_get hy
            obtain ⟨jj, hjj, rfl⟩ := map_get hq
            obtain ⟨hj, e1⟩ := List.getElem?_eq_some_iff.1 hjj
            simp at hj e1
            subst e1
            have hi := (List.getElem?_eq_some_iff.1 hz).1
            rw [hl] at hi
            obtain ⟨v, h1, h2⟩ := cell j hj i hi
            rw [h1]
            exact h2 z hz)
        have hn : (((List.range len).map f).map enc).length = len := by simp
        rw [hn, ← had] at hr
        exact hr
theorem fld {cs : List Value} {off n k : Nat} (h : k < n) : ((cs.drop off).take n).getD k undef = cs.getD (off + k) undef := by
  rw [List.getD_eq_getElem?_getD, List.getD_eq_getElem?_getD, List.getElem?_take_of_lt h, List.getElem?_drop]
theorem Opens.at {t : TypeId} {α : Type} {enc : α → List PV} {Q : α → Prop} (ho : Opens P t enc Q) {k : Nat} (hc : P.cellsOf t = k) (off : Nat) {H : Type} {he : TypeId × Value → H} {w : World} {base : Nat} {spare : Nat → Bool} {held : Bool} {n : Nat} {cs : List Value} {y : DataW H × List MemPlace}
    (h : DataW.trod he P w base spare held n t ((cs.drop off).take (P.cellsOf t)) = some y) : ∃ x, Q x ∧ ∀ i p, i < k → (enc x)[i]? = some p → Rep (allOf w) p (cs.getD (off + i) undef) := by
  obtain ⟨x, q, l, r⟩ := ho h
  refine ⟨x, q, fun i p hi hp => ?_⟩
  have := r i p hp
  rw [hc, fld hi] at this
  exact this
theorem Spec.law {f : FuncId} {args : List V1} {vs : Array Value} {w : World} (h : Spec P f args [] (.one (bv true)) []) (hs : vs.size = args.length) (ha : ∀ i x, args[i]? = some x → RepV1 (obsL []) ⟨fun _ => none, fun _ => 0, allOf w⟩ x (vs.getD i undef)) :
    Calls P f vs w fun e w' => e = .returned (.bool true) ∧ Below w.heap.size w w' :=
  (h w ⟨fun _ => none, fun _ => 0, allOf w⟩ vs ⟨fun _ _ _ h => h, fun i o h => by simp at h, fun i i' o o' b h => by simp at h⟩ hs ha).mono fun e w' ⟨v, c, he, hO⟩ => ⟨by
    have h1 : Rep c.G (.bool true) v := hO.rep
    cases h1
    exact he, ⟨hO.fr.os, hO.fr.tape, hO.fr.output, hO.fr.size, fun k hk => hO.fr.block k hk fun ⟨i, o, h, _⟩ => by simp at h⟩⟩
theorem rep_at {w : World} {p : PV} {v : Value} {ob : Obs} (h : Rep (allOf w) p v) : RepV1 ob ⟨fun _ => none, fun _ => 0, allOf w⟩ (pv p) v := h
theorem rep_agg {w : World} {l : List PV} {cs : Array Value} {ob : Obs} (hl : cs.toList.length = l.length) (h : ∀ i p, l[i]? = some p → Rep (allOf w) p (cs.toList.getD i undef)) : RepV1 ob ⟨fun _ => none, fun _ => 0, allOf w⟩ (ag l) (.agg cs) := by
  refine ⟨cs, rfl, by simpa using hl, fun i x hx => ?_⟩
  obtain ⟨p, hp, rfl⟩ := map_get hx
  have := h i p hp
  rw [List.getD_eq_getElem?_getD, Array.getElem?_toList] at this
  show Rep _ p _
  rw [Array.getD_eq_getD_getElem?]
  exact this
end Go.E2
namespace Go.E2
open Go.RowKit
set_option linter.unusedVariables false
set_option linter.unusedSimpArgs false
variable {E : Env} {A : Ora} {f : FuncId} {H : Hand} {α β : Type}
def brB (b : Bool) (x y : α) : α := match b with
  | true => x
  | false => y
@[simp] theorem brB_true (x y : α) : brB true x y = x := rfl
@[simp] theorem brB_false (x y : α) : brB false x y = y := rfl
@[simp] theorem brB_self (b : Bool) (x : α) : brB b x x = x := by cases b <;> rfl
@[simp] theorem brB_not (b : Bool) (x y : α) : brB (!b) x y = brB b y x := by cases b <;> rfl
@[simp] theorem brB_in (b : Bool) (x y z : α) : brB b (brB b x y) z = brB b x z := by cases b <;> rfl
@[simp] theorem brB_out (b : Bool) (x y z : α) : brB b x (brB b y z) = brB b x z := by cases b <;> rfl
theorem brB_is {b : Bool} {x y r : α} : brB b x y = r ↔ (b = true → x = r) ∧ (b = false → y = r) := by cases b <;> simp
theorem brB_eq (b : Bool) (x y : α) : brB b x y = if b = true then x else y := by cases b <;> rfl
theorem brB_ap (g : α → β) (b : Bool) (x y : α) : g (brB b x y) = brB b (g x) (g y) := by cases b <;> rfl
@[simp] theorem brB_tl (b c : Bool) : brB b true c = (b || c) := by cases b <;> rfl
@[simp] theorem brB_fl (b c : Bool) : brB b false c = (!b && c) := by cases b <;> rfl
@[simp] theorem brB_tr (b c : Bool) : brB b c true = (!b || c) := by cases b <;> simp
@[simp] theorem brB_fr (b c : Bool) : brB b c false = (b && c) := by cases b <;> simp
@[simp] theorem brB_bb (b c : Bool) : brB b b c = (b || c) := by cases b <;> rfl
@[simp] theorem brB_cb (b c : Bool) : brB b c b = (b && c) := by cases b <;> simp
theorem brB_bool (b p q : Bool) : brB b p q = (b && p || !b && q) := by cases b <;> simp
attribute [simp low] brB_bool
attribute [grind =] brB_eq
theorem condK_b (cur : Nat) (x y : Code) (s : St) (b : Bool) : condK E A f cur x y s (.one (.at (.pv (.bool b)))) = brB b (exec E A f cur x s) (exec E A f cur y s) := by cases b <;> rfl
theorem seqK_br (cur : Nat) (y : Code) (b : Bool) (u v : Option (Exit × St)) : seqK E A f cur y (brB b u v) = brB b (seqK E A f cur y u) (seqK E A f cur y v) := brB_ap (seqK E A f cur y) b u v
theorem blkK_br (id : Nat) (b : Bool) (u v : Option (Exit × St)) : blkK id (brB b u v) = brB b (blkK id u) (blkK id v) := brB_ap (blkK id) b u v
theorem turnK_br (id : Nat) (b : Bool) (u v : Option (Exit × St)) : turnK E A f id (brB b u v) = brB b (turnK E A f id u) (turnK E A f id v) := brB_ap (turnK E A f id) b u v
theorem finK_br (m : Nat) (rs : List ResultVar) (ts : List Nat) (b : Bool) (u v : Option (Exit × St)) : finK E f m rs ts (brB b u v) = brB b (finK E f m rs ts u) (finK E f m rs ts v) := brB_ap (finK E f m rs ts) b u v
theorem regK_br (b : Bool) (u v : Option St) : regK (brB b u v) = brB b (regK u) (regK v) := brB_ap regK b u v
theorem upC_br (ops : Array Oper) (b : Bool) (u v : Option (St × List UFoot)) : upC ops (brB b u v) = brB b (upC ops u) (upC ops v) := brB_ap (upC ops) b u v
theorem seqK_x (cur : Nat) (y : Code) (id : Nat) (s : St) : seqK E A f cur y (some (.exit id, s)) = some (.exit id, s) := rfl
theorem seqK_r (cur : Nat) (y : Code) (s : St) : seqK E A f cur y (some (.ret, s)) = some (.ret, s) := rfl
theorem turnK_x (id k : Nat) (s : St) : turnK E A f id (some (.exit k, s)) = exitK (.exit k) (exitO E f id s) := rfl
theorem turnK_r (id : Nat) (s : St) : turnK E A f id (some (.ret, s)) = exitK .ret (exitO E f id s) := rfl
def mgL (b : Bool) : List AV → List AV → List AV
  | x :: l, y :: l' => brB b x y :: mgL b l l'
  | [], [] => []
  | l, l' => brB b l l'
theorem mgL_eq (b : Bool) : ∀ l l', brB b l l' = mgL b l l'
  | [], [] => by rw [mgL, brB_self]
  | [], y :: l' => by rw [mgL] <;> simp
  | x :: l, [] => by rw [mgL] <;> simp
  | x :: l, y :: l' => by
    rw [mgL, ← mgL_eq b l l']
    cases b <;> rfl
theorem mgL_cons (b : Bool) (x y : AV) (l l' : List AV) : mgL b (x :: l) (y :: l') = brB b x y :: mgL b l l' := by rw [mgL]
theorem mgL_nil (b : Bool) : mgL b [] [] = [] := by rw [mgL]
theorem meet_n (b : Bool) (l l' : List AV) (o : List Upd) : brB b (some (Exit.normal, (⟨l, o⟩ : St))) (some (Exit.normal, (⟨l', o⟩ : St))) = some (Exit.normal, (⟨mgL b l l', o⟩ : St)) := by
  rw [← mgL_eq]
  cases b <;> rfl
theorem meet_e (b : Bool) (id : Nat) (l l' : List AV) (o : List Upd) : brB b (some (Exit.exit id, (⟨l, o⟩ : St))) (some (Exit.exit id, (⟨l', o⟩ : St))) = some (Exit.exit id, (⟨mgL b l l', o⟩ : St)) := by
  rw [← mgL_eq]
  cases b <;> rfl
theorem meet_st (b : Bool) (l l' : List AV) (o : List Upd) : brB b (some (⟨l, o⟩ : St)) (some (⟨l', o⟩ : St)) = some (⟨mgL b l l', o⟩ : St) := by
  rw [← mgL_eq]
  cases b <;> rfl
theorem meet_b (b p q : Bool) : brB b (AV.one (.at (.pv (.bool p)))) (AV.one (.at (.pv (.bool q)))) = AV.one (.at (.pv (.bool (brB b p q)))) := by cases b <;> rfl
theorem meet_i (b : Bool) (k : IntKind) (p q : Int) : brB b (AV.one (.at (.pv (.int k p)))) (AV.one (.at (.pv (.int k q)))) = AV.one (.at (.pv (.int k (brB b p q)))) := by cases b <;> rfl
theorem meet_s (b : Bool) (p q : ByteArray) : brB b (AV.one (.at (.pv (.str p)))) (AV.one (.at (.pv (.str q)))) = AV.one (.at (.pv (.str (brB b p q)))) := by cases b <;> rfl
abbrev bAV (b : Bool) : AV := .one (.at (.pv (.bool b)))
def gW (R : St → Option Eff → β) (E : Env) (H : Hand) (o : Oper) (s : St) : Bool → Bool → β
  | true, true => R s ((absOp E H o).val s)
  | false, false => R s ((absOp E H o).val s)
  | true, false => R s (some ⟨.tup [], []⟩)
  | false, true => R s (some ⟨.tup [], []⟩)
def gX (R : St → Option Eff → β) (E : Env) (H : Hand) (o : Oper) (want : Bool) (s : St) (t : Nat) : AV → β
  | .one (.at (.pv (.bool b))) => brB b (gW R E H o ⟨setS s.slots t (bAV true), s.obs⟩ want true) (gW R E H o ⟨setS s.slots t (bAV false), s.obs⟩ want false)
  | .tup [] => R s (some ⟨.tup [], []⟩)
  | _ => R s none
def gU (R : St → Option Eff → β) (E : Env) (H : Hand) (o : Oper) (want : Bool) (s : St) : Option Nat → β
  | none => R s none
  | some t => gX R E H o want s t (s.slot t)
def gT (R : St → Option Eff → β) (E : Env) (H : Hand) (ops : Array Oper) (o : Oper) (s : St) : Option (Nat × Bool) → β
  | none => R s ((absOp E H o).val s)
  | some (j, want) => gU R E H o want s ((ops[j]?).bind (·.dst))
theorem setS_same : ∀ (l : List AV) (t : Nat) (b : Bool), getS l t = bAV b → setS l t (bAV b) = l
  | [], t, b, h => rfl
  | v :: l, 0, b, h => by rw [getS] at h; rw [setS, h]
  | v :: l, n + 1, b, h => by rw [getS] at h; rw [setS, setS_same l n b h]
theorem put_same {s : St} {t : Nat} {b : Bool} (h : s.slot t = bAV b) : s.put (some t) (bAV b) = s := by
  obtain ⟨l, o⟩ := s
  rw [slot_mk] at h
  show (⟨l.set t (bAV b), o⟩ : St) = _
  rw [setS_eq, setS_same l t b h]
theorem gT_eq (R : St → Option Eff → β) (ops : Array Oper) (o : Oper) (s : St) : R s ((absG E H ops o).val s) = gT R E H ops o s o.guard := by
  unfold absG
  cases o.guard with
  | none => rfl
  | some q =>
    obtain ⟨j, want⟩ := q
    simp only [gT]
    cases (ops[j]?).bind (·.dst) with
    | none => rfl
    | some t =>
      simp only [gU, RM.val]
      generalize hv : s.slot t = v
      rcases v with ⟨⟨p | _ | _ | _ | _ | _⟩ | _⟩ | l <;> try rfl
      · cases p <;> try rfl
        rename_i b
        obtain ⟨sl, so⟩ := s
        rw [slot_mk] at hv
        simp only [gX]
        cases b
        · rw [brB_false, setS_same sl t false hv]
          cases want <;> rfl
        · rw [brB_true, setS_same sl t true hv]
          cases want <;> rfl
      · cases l <;> rfl
theorem ops_gT (ops : Array Oper) (o : Oper) (l : List Oper) (s : St) : runOps E H ops (o :: l) s = gT (opsK E H ops l o.dst) E H ops o s o.guard := by
  rw [ops_cons]
  exact gT_eq (opsK E H ops l o.dst) ops o s
theorem pure_gT (ops : Array Oper) (o : Oper) (l : List Oper) (s : St) : runPure E H ops (o :: l) s = gT (pureK (runPure E H ops l) o.dst) E H ops o s o.guard := gT_eq (pureK (runPure E H ops l) o.dst) ops o s
def upR (E : Env) (H : Hand) (ops : Array Oper) (l : List Oper) (o : Oper) (acc : List UFoot) (s : St) (e : Option Eff) : Option (St × List UFoot) := upK E H ops l o o.dst s acc e
theorem up_gT (ops : Array Oper) (o : Oper) (l : List Oper) (s : St) (acc : List UFoot) : runUp E H ops (o :: l) s acc = gT (upR E H ops l o acc) E H ops o s o.guard := by
  rw [up_cons]
  exact gT_eq (upR E H ops l o acc) ops o s
theorem upR_eq (ops : Array Oper) (l : List Oper) (o : Oper) (acc : List UFoot) (s : St) (e : Option Eff) : upR E H ops l o acc s e = upK E H ops l o o.dst s acc e := rfl
theorem gT_n (R : St → Option Eff → β) (ops : Array Oper) (o : Oper) (s : St) : gT R E H ops o s none = R s ((absOp E H o).val s) := rfl
theorem gT_s (R : St → Option Eff → β) (ops : Array Oper) (o : Oper) (s : St) (j : Nat) (want : Bool) : gT R E H ops o s (some (j, want)) = gU R E H o want s ((ops[j]?).bind (·.dst)) := rfl
theorem gU_s (R : St → Option Eff → β) (o : Oper) (want : Bool) (s : St) (t : Nat) : gU R E H o want s (some t) = gX R E H o want s t (s.slot t) := rfl
theorem gX_b (R : St → Option Eff → β) (o : Oper) (want : Bool) (l : List AV) (os : List Upd) (t : Nat) (b : Bool) : gX R E H o want ⟨l, os⟩ t (.one (.at (.pv (.bool b)))) = brB b (gW R E H o ⟨setS l t (bAV true), os⟩ want true) (gW R E H o ⟨setS l t (bAV false), os⟩ want false) := rfl
theorem gX_1 (R : St → Option Eff → β) (o : Oper) (want : Bool) (l : List AV) (os : List Upd) (t : Nat) : gX R E H o want ⟨l, os⟩ t (.one (.at (.pv (.bool true)))) = gW R E H o ⟨setS l t (bAV true), os⟩ want true := rfl
theorem gX_0 (R : St → Option Eff → β) (o : Oper) (want : Bool) (l : List AV) (os : List Upd) (t : Nat) : gX R E H o want ⟨l, os⟩ t (.one (.at (.pv (.bool false)))) = gW R E H o ⟨setS l t (bAV false), os⟩ want false := rfl
theorem gX_t (R : St → Option Eff → β) (o : Oper) (want : Bool) (s : St) (t : Nat) : gX R E H o want s t (.tup []) = R s (some ⟨.tup [], []⟩) := rfl
theorem gW_tt (R : St → Option Eff → β) (o : Oper) (s : St) : gW R E H o s true true = R s ((absOp E H o).val s) := rfl
theorem gW_ff (R : St → Option Eff → β) (o : Oper) (s : St) : gW R E H o s false false = R s ((absOp E H o).val s) := rfl
theorem gW_tf (R : St → Option Eff → β) (o : Oper) (s : St) : gW R E H o s true false = R s (some ⟨.tup [], []⟩) := rfl
theorem gW_ft (R : St → Option Eff → β) (o : Oper) (s : St) : gW R E H o s false true = R s (some ⟨.tup [], []⟩) := rfl
def pkD (y z : Operand) (s : St) : AV → Option Eff
  | .one (.at (.pv (.bool b))) => brB b ((absMove y).val s) ((absMove z).val s)
  | _ => none
theorem pick_val (x y z : Operand) (s : St) (hg : hasGlobal [x] = false) : (absPick x y z).val s = pkD y z s (absO s x) := by
  have key : ∀ v, ((match v with
    | .one (.at (.pv (.bool b))) => if b then absMove y else absMove z
    | _ => .fail : RM Eff)).val s = pkD y z s v := fun v => by
    rcases v with ⟨⟨p | _ | _ | _ | _ | _⟩ | _⟩ | _ <;> try rfl
    cases p <;> try rfl
    rename_i b
    cases b <;> rfl
  unfold absPick
  cases x with
  | global g => simp [hasGlobal, isGlobal] at hg
  | tmp t => exact key (absO s (.tmp t))
  | const v => exact key (absO s (.const v))
  | func f => exact key (absO s (.func f))
theorem pkD_b (y z : Operand) (s : St) (b : Bool) : pkD y z s (.one (.at (.pv (.bool b)))) = brB b ((absMove y).val s) ((absMove z).val s) := rfl
theorem pkD_t (y z : Operand) (s : St) : pkD y z s (.one (.at (.pv (.bool true)))) = (absMove y).val s := rfl
theorem pkD_f (y z : Operand) (s : St) : pkD y z s (.one (.at (.pv (.bool false)))) = (absMove z).val s := rfl
theorem meet_eff (b : Bool) (x y : AV) (us : List Upd) : brB b (some (⟨x, us⟩ : Eff)) (some (⟨y, us⟩ : Eff)) = some (⟨brB b x y, us⟩ : Eff) := (brB_ap (fun x => some (⟨x, us⟩ : Eff)) b x y).symm
theorem upC_ok {ops : Array Oper} {fs : List UFoot} {s : St} (h : okUp ops fs (ancs ops) = true) : upC ops (some (s, fs)) = some s := by
  simp only [upC]
  rw [if_pos h]
theorem ex_regionL (cur id : Nat) (L : List Oper) (s : St) : exec E A f cur (.region id L.toArray false) s = regK (runOps E A.fn L.toArray L s) := ex_region cur id L.toArray s
theorem ex_drawnL (cur id : Nat) (L : List Oper) (s : St) : exec E A f cur (.region id L.toArray true) s = regK (drawK E A.fn L.toArray s (E.plain f id)) := ex_drawn cur id L.toArray s
theorem drawK_p (L : List Oper) (s : St) : drawK E H L.toArray s true = runPure E H L.toArray L s := rfl
theorem drawK_u (L : List Oper) (s : St) : drawK E H L.toArray s false = upC L.toArray (runUp E H L.toArray L s []) := exUp_eq L.toArray s
theorem seqK_congr {cur : Nat} {y : Code} {r r' : Option (Exit × St)} (h : r = r') : seqK E A f cur y r = seqK E A f cur y r' := by rw [h]
theorem condK_congr {cur : Nat} {x y : Code} {s : St} {v v' : AV} (h : v = v') : condK E A f cur x y s v = condK E A f cur x y s v' := by rw [h]
theorem opsK_congr {ops : Array Oper} {l : List Oper} {d : Option Nat} {s : St} {v v' : Option Eff} (h : v = v') : opsK E H ops l d s v = opsK E H ops l d s v' := by rw [h]
theorem pureK_congr {g : St → Option St} {d : Option Nat} {s : St} {v v' : Option Eff} (h : v = v') : pureK g d s v = pureK g d s v' := by rw [h]
theorem finK_congr {m : Nat} {rs : List ResultVar} {ts : List Nat} {r r' : Option (Exit × St)} (h : r = r') : finK E f m rs ts r = finK E f m rs ts r' := by rw [h]
theorem turnK_congr {id : Nat} {r r' : Option (Exit × St)} (h : r = r') : turnK E A f id r = turnK E A f id r' := by rw [h]
theorem upK_congr {ops : Array Oper} {l : List Oper} {o : Oper} {d : Option Nat} {s : St} {acc : List UFoot} {v v' : Option Eff} (h : v = v') : upK E H ops l o d s acc v = upK E H ops l o d s acc v' := by rw [h]
theorem pkD_congr {y z : Operand} {s : St} {v v' : AV} (h : v = v') : pkD y z s v = pkD y z s v' := by rw [h]
theorem gT_congr {R : St → Option Eff → β} {ops : Array Oper} {o : Oper} {s : St} {g g' : Option (Nat × Bool)} (h : g = g') : gT R E H ops o s g = gT R E H ops o s g' := by rw [h]
theorem gU_congr {R : St → Option Eff → β} {o : Oper} {want : Bool} {s : St} {g g' : Option Nat} (h : g = g') : gU R E H o want s g = gU R E H o want s g' := by rw [h]
theorem gX_congr {R : St → Option Eff → β} {o : Oper} {want : Bool} {s : St} {t : Nat} {v v' : AV} (h : v = v') : gX R E H o want s t v = gX R E H o want s t v' := by rw [h]
theorem gW_congr {R : St → Option Eff → β} {o : Oper} {want w : Bool} {s s' : St} (h : s = s') : gW R E H o s want w = gW R E H o s' want w := by rw [h]
theorem exec_congr {cur : Nat} {x : Code} {s s' : St} (h : s = s') : exec E A f cur x s = exec E A f cur x s' := by rw [h]
theorem runOps_congr {ops : Array Oper} {l : List Oper} {s s' : St} (h : s = s') : runOps E H ops l s = runOps E H ops l s' := by rw [h]
theorem runPure_congr {ops : Array Oper} {l : List Oper} {s s' : St} (h : s = s') : runPure E H ops l s = runPure E H ops l s' := by rw [h]
theorem runUp_congr {ops : Array Oper} {l : List Oper} {s s' : St} {acc acc' : List UFoot} (h : s = s') (h' : acc = acc') : runUp E H ops l s acc = runUp E H ops l s' acc' := by rw [h, h']
theorem upC_congr {ops : Array Oper} {r r' : Option (St × List UFoot)} (h : r = r') : upC ops r = upC ops r' := by rw [h]
theorem drawK_congr {ops : Array Oper} {s : St} {b b' : Bool} (h : b = b') : drawK E H ops s b = drawK E H ops s b' := by rw [h]
attribute [congr] seqK_congr condK_congr opsK_congr pureK_congr finK_congr turnK_congr upK_congr pkD_congr gT_congr gU_congr gX_congr gW_congr exec_congr runOps_congr runPure_congr runUp_congr upC_congr drawK_congr
attribute [simp low] condK_b pkD_b gX_b
theorem cle (n : Nat) (k : Int) (h : 0 ≤ k) : ((n : Int) ≤ k) ↔ n ≤ k.toNat := by omega
theorem clt (n : Nat) (k : Int) (h : 0 ≤ k) : ((n : Int) < k) ↔ n < k.toNat := by omega
theorem cge (n : Nat) (k : Int) (h : 0 ≤ k) : (k ≤ (n : Int)) ↔ k.toNat ≤ n := by omega
theorem cgt (n : Nat) (k : Int) (h : 0 ≤ k) : (k < (n : Int)) ↔ k.toNat < n := by omega
theorem ceq (n : Nat) (k : Int) (h : 0 ≤ k) : ((n : Int) = k) ↔ n = k.toNat := by omega
theorem lim_le {n : Nat} (h : n ≤ 60000000000) : ∀ k : Nat, k ≤ 1000 → (n + 1) * k ≤ 70368744177664 := fun k hk => Nat.le_trans (Nat.mul_le_mul (show n + 1 ≤ 60000000001 by omega) hk) (by decide)
theorem res_b {a b : Bool} (h : a = b) : some (AV.one (bv a), ([] : List (Option AObj))) = some (AV.one (bv b), []) := by rw [h]
end Go.E2
