/- The engine, part 9: the operation that calls; lengths, places in rows, parts of tuples and structs. -/
import Derived.Test.YtimmgdpicjmjjaaEOps6
namespace Go.Eng
open Go.RowKit
set_option linter.unusedVariables false
set_option linter.unusedSimpArgs false
variable {ob : Obs} {c c' : Con} {w w' w0 : World} {S0 : Nat → Prop} {G0 G : Gh} {σ σ' σ1 : St} {a a' : Act} {P : Program}
/-- An operation, done, in the words of a walk. -/
def DoneW (P : Program) (w0 : World) (S0 : Nat → Prop) (G0 : Gh) (σ : St) (o : Oper) (e : Eff) : Prop :=
  ∀ c a w, Rel w0 S0 G0 σ c a w → ∀ (K : Act → World → Prop) (Q : Exit → Act → World → Prop), (∀ c' a' w', Rel w0 S0 G0 (σ.app o.dst e) c' a' w' → a'.tmps.size = a.tmps.size → K a' w') → o.wp P a w K Q
theorem Done.toW {o : Oper} {e : Eff} (h : Done P w0 S0 G0 σ o e) : DoneW P w0 S0 G0 σ o e := by
  intro c a w hR K Q hK
  obtain ⟨v, w', h1, c', h2⟩ := h c a w hR
  unfold Oper.wp
  rcases h1 with h1 | ⟨h1, h3⟩
  · rw [h1]
    exact hK c' _ _ h2 (Act.size_put _ _ _)
  · rw [h1]
    rw [h3] at h2
    exact hK c' _ _ h2 (Act.size_put _ _ _)
def raRM {α : Type} (x : RA) (k : At → List (Nat × Nat × Option AObj) → RM α) : RM α := match x with
  | .pv p => k (.pv p) []
  | .row key e xs => .obj key fun q => k (.row key (q.1 + 1)) [(key, q.1 + 1, some (.row true e xs))]
def rasRM {α : Type} : List RA → (List At → List (Nat × Nat × Option AObj) → RM α) → RM α
  | [], k => k [] []
  | x :: l, k => raRM x fun y us => rasRM l fun ys us' => k (y :: ys) (us ++ us')
def r1RM {α : Type} (x : R1) (k : V1 → List (Nat × Nat × Option AObj) → RM α) : RM α := match x with
  | .at x => raRM x fun y us => k (.at y) us
  | .agg l => rasRM l fun ys us => k (.agg ys) us
def r1sRM {α : Type} : List R1 → (List V1 → List (Nat × Nat × Option AObj) → RM α) → RM α
  | [], k => k [] []
  | x :: l, k => r1RM x fun y us => r1sRM l fun ys us' => k (y :: ys) (us ++ us')
def rtRM {α : Type} (x : RT) (k : AV → List (Nat × Nat × Option AObj) → RM α) : RM α := match x with
  | .one x => r1RM x fun y us => k (.one y) us
  | .tup l => r1sRM l fun ys us => k (.tup ys) us
theorem raUpd_append (g : Nat → Nat) : ∀ l m : List RA, raUpd g (l ++ m) = raUpd g l ++ raUpd g m
  | [], m => rfl
  | .pv p :: l, m => raUpd_append g l m
  | .row k e xs :: l, m => by simp only [List.cons_append, raUpd, raUpd_append g l m]
def gens (σ : St) : Nat → Nat := fun q => (σ.ob q).1
theorem val_raRM {α : Type} (x : RA) (k : At → List (Nat × Nat × Option AObj) → RM α) : (raRM x k).val σ = (k (raAt (gens σ) x) (raUpd (gens σ) [x])).val σ := by cases x <;> rfl
theorem val_rasRM {α : Type} : ∀ (l : List RA) (k : List At → List (Nat × Nat × Option AObj) → RM α), (rasRM l k).val σ = (k (l.map (raAt (gens σ))) (raUpd (gens σ) l)).val σ
  | [], k => rfl
  | x :: l, k => by
    rw [rasRM, val_raRM, val_rasRM l, show x :: l = [x] ++ l from rfl, raUpd_append]
    rfl
theorem val_r1RM {α : Type} (x : R1) (k : V1 → List (Nat × Nat × Option AObj) → RM α) : (r1RM x k).val σ = (k (r1V (gens σ) x) (raUpd (gens σ) x.atoms)).val σ := by
  cases x with
  | «at» y => unfold r1RM; dsimp only; rw [val_raRM]; rfl
  | agg l => unfold r1RM; dsimp only; rw [val_rasRM]; rfl
theorem val_r1sRM {α : Type} : ∀ (l : List R1) (k : List V1 → List (Nat × Nat × Option AObj) → RM α), (r1sRM l k).val σ = (k (l.map (r1V (gens σ))) (raUpd (gens σ) (l.flatMap R1.atoms))).val σ
  | [], k => rfl
  | x :: l, k => by
    rw [r1sRM, val_r1RM, val_r1sRM l, List.flatMap_cons, raUpd_append]
    rfl
theorem val_rtRM {α : Type} (x : RT) (k : AV → List (Nat × Nat × Option AObj) → RM α) : (rtRM x k).val σ = (k (rtAV (gens σ) x) (raUpd (gens σ) x.atoms)).val σ := by
  cases x with
  | one y => unfold rtRM; dsimp only; rw [val_r1RM]; rfl
  | tup l => unfold rtRM; dsimp only; rw [val_r1sRM]; rfl
/-- What a call asks for. -/
structure Dem where
  f : FuncId
  args : List PA
  res : RT
def Dem.ok (P : Program) (d : Dem) : Prop := Spec P d.f d.args d.res
/-- A function that has a text. -/
def FnOk (P : Program) (f : FuncId) : Prop := ∃ fn, P.funcs[f]? = some fn ∧ (fn.name == "runtime.NumGoroutine") = false ∧ fn.body.isNone = false
def absCall (tab : Nat → Option Ty) (fns : FuncId → Bool) (res : RT) (f : Operand) (args : Array Operand) (tys : Array TypeId) : RM (Eff × Dem) := opnd f fun u => match u with
  | .one (.at (.pv (.fn f caps))) => if fns f = true then argPAs (tys.toList.map fun t => ((tab t).map (·.es)).getD []) args.toList fun ps us =>
      rtRM res fun v us' => .ret (⟨v, us ++ us'⟩, ⟨f, ps ++ caps.map .at, res⟩) else .fail
  | _ => .fail
theorem done_call {o : Oper} {tab : Nat → Option Ty} {fns : FuncId → Bool} {cl : Call} {f : Operand} {res : RT} {e : Eff} {dm : Dem} (hf : ∀ f, fns f = true → FnOk P f) (ho : o.op = .call cl) (hc : cl.callee = .value f)
    (h : (absCall tab fns res f cl.args cl.argTypes).val σ = some (e, dm)) (hd : dm.ok P) : DoneW P w0 S0 G0 σ o e := by
  replace h := val_opnd h
  generalize hu : absO σ f = u at h
  split at h
  case h_2 => simp [RM.val] at h
  case h_1 fid caps =>
    split at h
    case isFalse => simp [RM.val] at h
    case isTrue hfn =>
      obtain ⟨ps, us, h, hl, H⟩ := val_argPAs h
      rw [val_rtRM] at h
      simp only [RM.val, Option.some.injEq, Prod.mk.injEq] at h
      obtain ⟨he, hdm⟩ := h
      subst he hdm
      obtain ⟨hF, HR⟩ := H σ (Frz.refl σ)
      intro c a w hR K Q hK
      obtain ⟨c1, hR1, g1, e1, e2, hv⟩ := HR w0 S0 G0 c a w hR
      have hx := hR.opnd f
      rw [hu] at hx
      have hx : Rep c.G (.fn fid caps) (a.eval f) := hx
      obtain ⟨fn, hfn1, hfn2, hfn3⟩ := hf fid hfn
      have hfn2 : ¬ fn.name = "runtime.NumGoroutine" := by simpa using hfn2
      have hfn3 : ¬ fn.body = none := fun e => by rw [e] at hfn3; simp at hfn3
      generalize hz : a.eval f = z at hx
      cases hx with
      | fn _ _ vs hl2 hr2 =>
        have hrun : (execOp a.eval o).run P w = .ok (.enter fid (cl.args.map a.eval ++ vs)) w := by
          simp [execOp, ho, resolve, hc, hz, Deferred.ofValue, invoke, callFunc, program, Sem.run, hfn1, hfn2, hfn3]
        unfold Oper.wp
        rw [hrun, Oper.upon_enter]
        have hgens : ∀ q, ((σ.lays us).ob q).1 = (σ.ob q).1 := fun q => by
          rcases hF.2 q with h | ⟨g, e, xs, h1, h2⟩
          · rw [h]
          · rw [h1, h2]
        have hg : gens (σ.lays us) = gens σ := funext hgens
        refine Calls.mono (hd w c1.G (cl.args.map a.eval ++ vs) hR1.imm (by simp [hl, hl2]) fun i x hx => ?_) fun e w' ⟨v, c2, he, hends⟩ => ?_
        · by_cases hi : i < ps.length
          · rw [List.getElem?_append_left hi] at hx
            obtain ⟨y, hy⟩ : ∃ y, cl.args.toList[i]? = some y := ⟨_, List.getElem?_eq_getElem (by omega)⟩
            obtain ⟨p, hp, hrep⟩ := hv i y hy
            rw [hx] at hp
            cases hp
            have hi2 : i < (cl.args.map a.eval).size := by simp; have : cl.args.toList.length = cl.args.size := Array.length_toList; omega
            rw [Array.getD_eq_getD_getElem?, Array.getElem?_append_left hi2, Array.getElem?_map]
            rw [Array.getElem?_toList] at hy
            rw [hy]
            exact hrep
          · rw [List.getElem?_append_right (by omega)] at hx
            obtain ⟨p, hp, rfl⟩ := map_get hx
            have hsz : (cl.args.map a.eval).size = ps.length := by simp [hl]
            rw [Array.getD_eq_getD_getElem?, Array.getElem?_append_right (by omega), hsz]
            have := hr2 _ p hp
            rw [Array.getD_eq_getD_getElem?] at this
            exact Rep.mono g1 this
        · subst he
          obtain ⟨c3, hR3⟩ := hR1.call hends o.dst
          refine hK c3 _ _ ?_ (Act.size_put _ _ _)
          have : (fun q => ((σ.lays us).ob q).1) = gens σ := hg
          rw [this] at hR3
          unfold St.app
          rw [lays_append]
          exact hR3
/-! ### Lengths -/
def absLen (tab : Nat → Option Ty) (t : Nat) (x : Operand) : RM Eff := opnd x fun u => match tab t with
  | none => .fail
  | some ty => if ty.str = true then match u with
      | .one (.at (.pv (.str s))) => .ret ⟨.one (.at (.pv (.int .i64 s.size))), []⟩
      | _ => .fail
    else if ty.elem = 0 then .fail else match u with
      | .one (.at (.pv (.list _ xs))) => .ret ⟨.one (.at (.pv (.int .i64 xs.length))), []⟩
      | .one (.at .nil) => .ret ⟨.one (.at (.pv (.int .i64 0))), []⟩
      | .one (.at (.row k g)) => .obj k fun q => match rowLen (gone g q) with
        | some n => .ret ⟨.one (.at (.pv (.int .i64 n))), []⟩
        | none => .fail
      | _ => .fail
theorem rep_list_val {e : Nat} {xs : List (List PV)} {v : Value} (h : Rep G (.list e xs) v) : ∃ A cap, v = .slice A xs.length cap := by
  cases h with
  | nil _ A cap => exact ⟨A, cap, rfl⟩
  | list _ _ g o cap f hc hw hg hr => exact ⟨_, cap, rfl⟩
theorem rowVal_slice (b : Option Nat) (n cap : Nat) (h : b = none → n = 0) : ∃ A cap', rowVal b n cap = .slice A n cap' := by
  cases b with
  | none => rw [h rfl]; exact ⟨_, _, rfl⟩
  | some b => exact ⟨_, _, rfl⟩
/-- A row's value is a slice of its length. -/
theorem Rel.row_slice (h : Rel w0 S0 G0 σ c a w) {k g n : Nat} (hn : rowLen (gone g (σ.ob k)) = some n) : ∃ A cap, rowVal (c.ρ k) n (c.cp k) = .slice A n cap := by
  refine rowVal_slice _ _ _ fun e => ?_
  cases hq : gone g (σ.ob k) with
  | none => rw [hq] at hn; simp [rowLen] at hn
  | some o =>
    have hob := h.obs k g o (gone_some hq)
    rw [hq] at hn
    cases o with
    | blk cells => simp [rowLen] at hn
    | fro cells => simp [rowLen] at hn
    | row own e1 xs =>
      simp only [rowLen, Option.some.injEq] at hn
      rcases hob with ⟨h1, h2, h3⟩ | ⟨b, cs, ty, hb, _⟩
      · rw [h2] at hn; exact hn.symm
      · rw [e] at hb; cases hb
    | view e1 xs =>
      simp only [rowLen, Option.some.injEq] at hn
      rcases hob with ⟨h1, h2⟩ | ⟨b, hb, _⟩
      · rw [h2] at hn; exact hn.symm
      · rw [e] at hb; cases hb
theorem done_len {o : Oper} {tab : Nat → Option Ty} {cl : Call} {t : Nat} {x : Operand} {e : Eff} (htab : ∀ t ty, tab t = some ty → TyOk P t ty) (ho : o.op = .call cl) (hc : cl.callee = .builtin .len) (ha : cl.args = #[x]) (ht : cl.argTypes = #[t])
    (h : (absLen tab t x).val σ = some e) : Done P w0 S0 G0 σ o e := by
  replace h := val_opnd h
  cases hty : tab t with
  | none => rw [hty] at h; simp [RM.val] at h
  | some ty =>
    rw [hty] at h
    have hT := htab t ty hty
    have hx := fun c a w (hR : Rel w0 S0 G0 σ c a w) => hR.opnd x
    generalize absO σ x = u at h hx
    dsimp only at h
    split at h
    case isTrue hs =>
      split at h
      case h_2 => simp [RM.val] at h
      case h_1 s =>
        simp only [RM.val, Option.some.injEq] at h
        subst h
        refine Done.pure fun c a w hR => ⟨.int .i64 s.size, ?_, Rep.int _ _⟩
        have e1 := rep_str (hx c a w hR)
        simp [execOp, ho, resolve, hc, ha, ht, invoke, builtin, Builtin.len_, run_underlying (hT.str hs), e1, goInt]
    case isFalse hs =>
      split at h
      case isTrue => simp [RM.val] at h
      case isFalse he =>
        have R : ∀ (a : Act) (w : World) (A : Option Addr) (n cap : Nat), a.eval x = .slice A n cap → (execOp a.eval o).run P w = .ok (.value (.int .i64 n)) w := fun a w A n cap e1 => by
          simp [execOp, ho, resolve, hc, ha, ht, invoke, builtin, Builtin.len_, run_underlying (hT.slice he), e1, goInt]
        split at h
        case h_1 e1 xs =>
          simp only [RM.val, Option.some.injEq] at h
          subst h
          refine Done.pure fun c a w hR => ⟨.int .i64 xs.length, ?_, Rep.int _ _⟩
          obtain ⟨A, cap, e1⟩ := rep_list_val (hx c a w hR)
          exact R a w A _ cap e1
        case h_2 =>
          simp only [RM.val, Option.some.injEq] at h
          subst h
          refine Done.pure fun c a w hR => ⟨.int .i64 (0 : Nat), R a w none 0 0 (hx c a w hR), Rep.int _ _⟩
        case h_3 k g =>
          simp only [RM.val] at h
          split at h
          case h_2 => simp [RM.val] at h
          case h_1 n hn =>
            simp only [RM.val, Option.some.injEq] at h
            subst h
            refine Done.pure fun c a w hR => ⟨.int .i64 n, ?_, Rep.int _ _⟩
            obtain ⟨A, cap, e1⟩ := hR.row_slice hn
            exact R a w A _ cap ((((hx c a w hR).2 n hn)).trans e1)
        case h_4 => simp [RM.val] at h
/-! ### Places in rows -/
def absIndexAddr (tab : Nat → Option Ty) (t : Nat) (x i : Operand) : RM Eff := opnd x fun u => opnd i fun v => match tab t with
  | none => .fail
  | some ty => if ty.elem = 0 then .fail else match tab ty.elem with
    | none => .fail
    | some ety => match v with
      | .one (.at (.pv (.int _ n))) => if n < 0 then .fail else match u with
        | .one (.at (.pv (.list e xs))) => if e = ety.size then match xs[n.toNat]? with
            | some cells => .ret ⟨.one (.at (.pv (.ref cells))), []⟩
            | none => .fail
          else .fail
        | .one (.at (.row k g)) => .obj k fun q => if rowE (gone g q) = some ety.size then match rowLen (gone g q) with
            | some m => if n < m then .ret ⟨.one (.at (.eptr k g n.toNat 0)), []⟩ else .fail
            | none => .fail
          else .fail
        | _ => .fail
      | _ => .fail
theorem run_indexAt {t : Nat} {ty ety : Ty} (hT : TyOk P t ty) (hE : TyOk P ty.elem ety) (he : ¬ ty.elem = 0) (b o len cap : Nat) (k : IntKind) (n : Int) (h0 : ¬ n < 0) (h1 : n < len) :
    (Instr.indexAt t (.slice (some ⟨b, o, none⟩) len cap) (.int k n)).run P w = .ok (.pointer (some ⟨b, o + n.toNat * ety.size, none⟩)) w := by
  obtain ⟨i, z, hi, hsz, _⟩ := hE.info
  have h2 : 0 ≤ n ∧ n < (len : Int) := ⟨by omega, h1⟩
  simp [Instr.indexAt, asIntOf, run_underlying (hT.slice he), h2, sizeOf, typeInfo, hi, hsz, Addr.add_mid]
theorem done_indexAddr {o : Oper} {tab : Nat → Option Ty} {t : Nat} {x i : Operand} {e : Eff} (htab : ∀ t ty, tab t = some ty → TyOk P t ty) (ho : o.op = .indexAddr t x i) (h : (absIndexAddr tab t x i).val σ = some e) : Done P w0 S0 G0 σ o e := by
  replace h := val_opnd h
  replace h := val_opnd h
  cases hty : tab t with
  | none => rw [hty] at h; simp [RM.val] at h
  | some ty =>
    rw [hty] at h
    have hT := htab t ty hty
    have hx := fun c a w (hR : Rel w0 S0 G0 σ c a w) => hR.opnd x
    have hi := fun c a w (hR : Rel w0 S0 G0 σ c a w) => hR.opnd i
    generalize absO σ x = u at h hx
    generalize absO σ i = v at h hi
    dsimp only at h
    split at h
    case isTrue => simp [RM.val] at h
    case isFalse he =>
      cases hety : tab ty.elem with
      | none => rw [hety] at h; simp [RM.val] at h
      | some ety =>
        rw [hety] at h
        have hE := htab _ ety hety
        dsimp only at h
        split at h
        case h_2 => simp [RM.val] at h
        case h_1 kk n =>
          split at h
          case isTrue => simp [RM.val] at h
          case isFalse h0 =>
            split at h
            case h_1 e1 xs =>
              split at h
              case isFalse => simp [RM.val] at h
              case isTrue hes =>
                split at h
                case h_2 => simp [RM.val] at h
                case h_1 cells hcell =>
                  simp only [RM.val, Option.some.injEq] at h
                  subst h
                  refine Done.pure fun c a w hR => ?_
                  have q1 := hx c a w hR
                  have q2 := rep_int (hi c a w hR)
                  have q1 : Rep c.G (.list e1 xs) (a.eval x) := q1
                  have hlt := (List.getElem?_eq_some_iff.1 hcell).1
                  generalize hz : a.eval x = z at q1
                  cases q1 with
                  | nil _ A cap => simp at hlt
                  | list _ _ g o1 cap f hc hw hg hr =>
                    refine ⟨.pointer (some ⟨g, o1 + n.toNat * ety.size, none⟩), by simp [execOp, ho, hz, q2, run_indexAt hT hE he g o1 xs.length cap kk n h0 (by omega)], ?_⟩
                    refine Rep.ref cells g _ (fun i => f n.toNat i) (fun i p hp => ?_) (fun i p hp => hr _ _ _ _ hcell hp)
                    rw [← hes]
                    exact hg _ _ _ _ hcell hp
            case h_2 k g =>
              simp only [RM.val] at h
              split at h
              case isFalse => simp [RM.val] at h
              case isTrue hes =>
                split at h
                case h_2 => simp [RM.val] at h
                case h_1 m hm =>
                  split at h
                  case isFalse => simp [RM.val] at h
                  case isTrue hlt =>
                    simp only [RM.val, Option.some.injEq] at h
                    subst h
                    refine Done.pure fun c a w hR => ?_
                    obtain ⟨q0, q1⟩ := hx c a w hR
                    have q2 := rep_int (hi c a w hR)
                    have q1 := q1 m hm
                    cases hb : c.ρ k with
                    | none =>
                      exfalso
                      cases hq : gone g (σ.ob k) with
                      | none => rw [hq] at hm; simp [rowLen] at hm
                      | some ob1 =>
                        have hob := hR.obs k g ob1 (gone_some hq)
                        rw [hq] at hm
                        cases ob1 with
                        | blk cells => simp [rowLen] at hm
                        | fro cells => simp [rowLen] at hm
                        | row own e1 xs =>
                          simp only [rowLen, Option.some.injEq] at hm
                          rcases hob with ⟨_, h2, _⟩ | ⟨b, cs, ty, hb', _⟩
                          · rw [h2] at hm; simp at hm; omega
                          · rw [hb] at hb'; cases hb'
                        | view e1 xs =>
                          simp only [rowLen, Option.some.injEq] at hm
                          rcases hob with ⟨_, h2⟩ | ⟨b, hb', _⟩
                          · rw [h2] at hm; simp at hm; omega
                          · rw [hb] at hb'; cases hb'
                    | some b =>
                      rw [hb] at q1
                      have q1 : a.eval x = .slice (some ⟨b, 0, none⟩) m (c.cp k) := q1
                      refine ⟨.pointer (some ⟨b, 0 + n.toNat * ety.size, none⟩), by simp [execOp, ho, q1, q2, run_indexAt hT hE he b 0 m (c.cp k) kk n h0 hlt], q0, fun e2 he2 => ⟨b, hb, ?_⟩⟩
                      have he2 : rowE (gone g (σ.ob k)) = some e2 := he2
                      rw [hes] at he2
                      cases he2
                      simp
            case h_3 => simp [RM.val] at h
end Go.Eng
