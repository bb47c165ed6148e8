/- The row of ViewAll: any items' fields are the document's; any two fields are held against each other as it says -/
import Derived.WalkKit
import Derived.ProofKit
import Derived.OpenShut
import Derived.ShutString
import Derived.ChangeOld
import Derived.SizedLaws
import Derived.Carry
import Derived.Below
import Derived.Deep.Slices
import Derived.Test.YtjejhkhofmkefaaRows
import Derived.Test.YtjejhkhofmkefaaQViewAll16
namespace Go.E2
open Go.RowKit Go.ChangeShapes Go.WideShapes
set_option linter.unusedVariables false
set_option linter.unusedSimpArgs false
variable {P : Program}
def allOf (w : World) : Gh := fun b o => w.cell? ⟨b, o, none⟩
theorem cell_spot {w : World} {a : Addr} {v : Value} (h : w.cell? a = some v) : a = ⟨a.block, a.off, none⟩ := by
  cases a with
  | mk b o s =>
    cases s with
    | none => rfl
    | some s =>
      unfold World.cell? at h
      split at h <;> simp at h
theorem add_mk (b o i : Nat) : (⟨b, o, none⟩ : Addr).add i = ⟨b, o + i, none⟩ := by
  unfold Addr.add
  split
  · rename_i h; subst h; rfl
  · rfl
def Opens (P : Program) (t : TypeId) {α : Type} (enc : α → List PV) (Q : α → Prop) : Prop :=
  ∀ {H : Type} {he : TypeId × Value → H} {w : World} {base : Nat} {spare : Nat → Bool} {held : Bool} {n : Nat} {cs : List Value} {y : DataW H × List MemPlace}, DataW.trod he P w base spare held n t cs = some y →
    ∃ x, Q x ∧ cs.length = (enc x).length ∧ ∀ i p, (enc x)[i]? = some p → Rep (allOf w) p (cs.getD i undef)
def I64q (x : Int) : Prop := -9223372036854775808 ≤ x ∧ x ≤ 9223372036854775807
theorem wf64q {x : Int} (h : (Lit.int .i64 x).wf = true) : I64q x := by
  simp [Lit.wf, IntKind.min, IntKind.max, IntKind.bits, IntKind.signed] at h
  unfold I64q
  omega
theorem one_rep {G : Gh} {q : PV} {v : Value} (h : Rep G q v) : ∀ i p, ([q] : List PV)[i]? = some p → Rep G p (([v] : List Value).getD i undef) := fun i p hp => by
  match i, hp with
  | 0, hp => cases hp; exact h
theorem opens_str {t : TypeId} (ht : P.underlying t = some .string) : Opens P t encS (fun _ => True) := fun h => by
  obtain ⟨s, rfl, _⟩ := DataW.trod_string ht h
  exact ⟨s, trivial, rfl, one_rep (.str s)⟩
theorem opens_int {t : TypeId} (ht : P.underlying t = some (.int .i64)) : Opens P t encZ I64q := fun h => by
  obtain ⟨s, rfl, _, hw⟩ := DataW.trod_int ht h
  exact ⟨s, wf64q hw, rfl, one_rep (.int _ s)⟩
theorem opens_bool {t : TypeId} (ht : P.underlying t = some .bool) : Opens P t (fun b : Bool => [.bool b]) (fun _ => True) := fun h => by
  obtain ⟨s, rfl, _⟩ := DataW.trod_bool ht h
  exact ⟨s, trivial, rfl, one_rep (.bool s)⟩
theorem opens_slice {t e : TypeId} {α : Type} [Inhabited α] {enc : α → List PV} {Q : α → Prop} {k : Nat} (ht : P.underlying t = some (.slice e)) (hc : P.cellsOf e = k) (hk : 0 < k) (he : Opens P e enc Q) (hl : ∀ x, (enc x).length = k) :
    Opens P t (fun l : List α => [.list k (l.map enc)]) (fun l => ∀ x ∈ l, Q x) := fun {H hen w base spare held n cs y} h => by
  rcases Go.Deep.open_slice ht h with ⟨rfl, _⟩ | ⟨ad, len, cap, m, n, D, Pl, rfl, _, hlc, hm, hmm, _, hx⟩
  · exact ⟨[], by simp, rfl, one_rep (.nil k none 0)⟩
  · have hlm : len ≤ m := by rw [hmm]; split <;> omega
    obtain ⟨f, hf⟩ := Go.Deep.choose_lt (α := α) (n := len) (p := fun i p => ∃ cs', w.cells? base (ad.add (i * P.cellsOf e)) (P.cellsOf e) = some cs' ∧ Q p ∧ ∀ j q, (enc p)[j]? = some q → Rep (allOf w) q (cs'.getD j undef)) (fun i hi => by
      obtain ⟨cs', h1, h2⟩ := hx i (by omega)
      obtain ⟨p, hp, _, hq⟩ := he h2
      exact ⟨p, cs', h1, hp, hq⟩)
    refine ⟨(List.range len).map f, fun x hx => ?_, rfl, one_rep ?_⟩
    · obtain ⟨j, hj, rfl⟩ := List.mem_map.1 hx
      obtain ⟨_, _, hq, _⟩ := hf j (List.mem_range.1 hj)
      exact hq
    · rcases Nat.eq_zero_or_pos len with h0 | h0
      · subst h0
        exact .nil k _ _
      · have cell : ∀ j, j < len → ∀ i, i < k → ∃ v, w.cell? (ad.add (j * k + i)) = some v ∧ ∀ q, (enc (f j))[i]? = some q → Rep (allOf w) q v := fun j hj i hi => by
          obtain ⟨cs', h1, _, h3⟩ := hf j hj
          rw [hc] at h1
          obtain ⟨_, hlen, hcell⟩ := World.cells?_some h1
          have := hcell i (by omega)
          rw [Go.Deep.add_add] at this
          refine ⟨cs'.getD i undef, ?_, h3 i⟩
          rw [this, List.getD_eq_getElem?_getD, List.getElem?_eq_getElem (by omega)]
          rfl
        obtain ⟨v0, c0, _⟩ := cell 0 h0 0 hk
        have had : ad = ⟨ad.block, ad.off, none⟩ := cell_spot (a := ad) (by simpa [Addr.add] using c0)
        have hr := Rep.list (G := allOf w) k (((List.range len).map f).map enc) ad.block ad.off cap (fun j i => (w.cell? (ad.add (j * k + i))).getD undef) (by simp; omega)
          (fun j y hy => by
            obtain ⟨z, _, rfl⟩ := map_get hy
            exact hl z)
          (fun j y i z hy hz => by
            obtain ⟨q, hq, rfl⟩ := map_get hy
            obtain ⟨jj, hjj, rfl⟩ := map_get hq
            obtain ⟨hj, e1⟩ := List.getElem?_eq_some_iff.1 hjj
            simp at hj e1
            subst e1
            have hi := (List.getElem?_eq_some_iff.1 hz).1
            rw [hl] at hi
            obtain ⟨v, h1, _⟩ := cell j hj i hi
            rw [h1]
            rw [had, add_mk] at h1
            rw [Nat.add_assoc]
            exact h1)
          (fun j y i z hy hz => by
            obtain ⟨q, hq, rfl⟩ := map_get hy
            obtain ⟨jj, hjj, rfl⟩ := map_get hq
            obtain ⟨hj, e1⟩ := List.getElem?_eq_some_iff.1 hjj
            simp at hj e1
            subst e1
            have hi := (List.getElem?_eq_some_iff.1 hz).1
            rw [hl] at hi
            obtain ⟨v, h1, h2⟩ := cell j hj i hi
            rw [h1]
            exact h2 z hz)
        have hn : (((List.range len).map f).map enc).length = len := by simp
        rw [hn, ← had] at hr
        exact hr
theorem fld {cs : List Value} {off n k : Nat} (h : k < n) : ((cs.drop off).take n).getD k undef = cs.getD (off + k) undef := by
  rw [List.getD_eq_getElem?_getD, List.getD_eq_getElem?_getD, List.getElem?_take_of_lt h, List.getElem?_drop]
theorem Opens.at {t : TypeId} {α : Type} {enc : α → List PV} {Q : α → Prop} (ho : Opens P t enc Q) {k : Nat} (hc : P.cellsOf t = k) (off : Nat) {H : Type} {he : TypeId × Value → H} {w : World} {base : Nat} {spare : Nat → Bool} {held : Bool} {n : Nat} {cs : List Value} {y : DataW H × List MemPlace}
    (h : DataW.trod he P w base spare held n t ((cs.drop off).take (P.cellsOf t)) = some y) : ∃ x, Q x ∧ ∀ i p, i < k → (enc x)[i]? = some p → Rep (allOf w) p (cs.getD (off + i) undef) := by
  obtain ⟨x, q, l, r⟩ := ho h
  refine ⟨x, q, fun i p hi hp => ?_⟩
  have := r i p hp
  rw [hc, fld hi] at this
  exact this
theorem Spec.law {f : FuncId} {args : List V1} {vs : Array Value} {w : World} (h : Spec P f args [] (.one (bv true)) []) (hs : vs.size = args.length) (ha : ∀ i x, args[i]? = some x → RepV1 (obsL []) ⟨fun _ => none, fun _ => 0, allOf w⟩ x (vs.getD i undef)) :
    Calls P f vs w fun e w' => e = .returned (.bool true) ∧ Below w.heap.size w w' :=
  (h w ⟨fun _ => none, fun _ => 0, allOf w⟩ vs ⟨fun _ _ _ h => h, fun i o h => by simp at h, fun i i' o o' b h => by simp at h⟩ hs ha).mono fun e w' ⟨v, c, he, hO⟩ => ⟨by
    have h1 : Rep c.G (.bool true) v := hO.rep
    cases h1
    exact he, ⟨hO.fr.os, hO.fr.tape, hO.fr.output, hO.fr.size, fun k hk => hO.fr.block k hk fun ⟨i, o, h, _⟩ => by simp at h⟩⟩
theorem rep_at {w : World} {p : PV} {v : Value} {ob : Obs} (h : Rep (allOf w) p v) : RepV1 ob ⟨fun _ => none, fun _ => 0, allOf w⟩ (pv p) v := h
theorem rep_agg {w : World} {l : List PV} {cs : Array Value} {ob : Obs} (hl : cs.toList.length = l.length) (h : ∀ i p, l[i]? = some p → Rep (allOf w) p (cs.toList.getD i undef)) : RepV1 ob ⟨fun _ => none, fun _ => 0, allOf w⟩ (ag l) (.agg cs) := by
  refine ⟨cs, rfl, by simpa using hl, fun i x hx => ?_⟩
  obtain ⟨p, hp, rfl⟩ := map_get hx
  have := h i p hp
  rw [List.getD_eq_getElem?_getD, Array.getElem?_toList] at this
  show Rep _ p _
  rw [Array.getD_eq_getD_getElem?]
  exact this
end Go.E2
namespace Go.E2.S
open Go Go.E2 Go.RowKit Go.Proofs
set_option linter.unusedVariables false
set_option linter.unusedSimpArgs false
theorem list3 {α : Type} : ∀ {l : List α}, l.length = 3 → ∃ a b c, l = [a, b, c]
  | [a, b, c], _ => ⟨a, b, c, rfl⟩
theorem list4 {α : Type} : ∀ {l : List α}, l.length = 4 → ∃ a b c d, l = [a, b, c, d]
  | [a, b, c, d], _ => ⟨a, b, c, d, rfl⟩
theorem list6 {α : Type} : ∀ {l : List α}, l.length = 6 → ∃ a b c d e f, l = [a, b, c, d, e, f]
  | [a, b, c, d, e, f], _ => ⟨a, b, c, d, e, f, rfl⟩
instance : Inhabited Dot := ⟨⟨0, 0, 0⟩⟩
instance : Inhabited Item := ⟨⟨ByteArray.empty, ByteArray.empty, 0, ByteArray.empty, 0, default⟩⟩
instance : Inhabited Val := ⟨⟨[], [], 0, false⟩⟩
theorem oS : Opens Try.prog 9 encS (fun _ => True) := opens_str Try.underlying9
theorem oZ : Opens Try.prog 3 encZ I64 := opens_int Try.underlying3
theorem oZ6 : Opens Try.prog 2 encZ I64 := opens_int Try.underlying2
theorem oB : Opens Try.prog 4 (fun b : Bool => [.bool b]) (fun _ => True) := opens_bool Try.underlying4
theorem cZ : Try.prog.cellsOf 3 = 1 := by kernel_rfl
theorem cZ6 : Try.prog.cellsOf 2 = 1 := by kernel_rfl
theorem cS : Try.prog.cellsOf 9 = 1 := by kernel_rfl
theorem cB : Try.prog.cellsOf 4 = 1 := by kernel_rfl
theorem cD : Try.prog.cellsOf 38 = 3 := by kernel_rfl
theorem cI : Try.prog.cellsOf 40 = 8 := by kernel_rfl
theorem oD : Opens Try.prog 38 encD WfD := fun {H he w base spare held n cs y} h => by
  obtain ⟨xs, m, _, _, hl, hx, hf⟩ := DataW.trod_struct Try.underlying38 h
  rw [cD] at hl
  have hx : xs.length = 3 := hx
  obtain ⟨y0, y1, y2, rfl⟩ := list3 hx
  obtain ⟨x0, q0, r0⟩ := oZ.at cZ 0 (hf 0 _ rfl)
  obtain ⟨x1, q1, r1⟩ := oZ.at cZ 1 (hf 1 _ rfl)
  obtain ⟨x2, q2, r2⟩ := oZ.at cZ 2 (hf 2 _ rfl)
  refine ⟨⟨x0, x1, x2⟩, ⟨q0, q1, q2⟩, hl, fun i p hp => ?_⟩
  match i, hp with
  | 0, hp => cases hp; exact r0 0 _ (by omega) rfl
  | 1, hp => cases hp; exact r1 0 _ (by omega) rfl
  | 2, hp => cases hp; exact r2 0 _ (by omega) rfl
theorem oI : Opens Try.prog 40 encI WfI := fun {H he w base spare held n cs y} h => by
  obtain ⟨xs, m, _, _, hl, hx, hf⟩ := DataW.trod_struct Try.underlying40 h
  rw [cI] at hl
  have hx : xs.length = 6 := hx
  obtain ⟨y0, y1, y2, y3, y4, y5, rfl⟩ := list6 hx
  obtain ⟨x0, q0, r0⟩ := oS.at cS 0 (hf 0 _ rfl)
  obtain ⟨x1, q1, r1⟩ := oS.at cS 1 (hf 1 _ rfl)
  obtain ⟨x2, q2, r2⟩ := oZ.at cZ 2 (hf 2 _ rfl)
  obtain ⟨x3, q3, r3⟩ := oS.at cS 3 (hf 3 _ rfl)
  obtain ⟨x4, q4, r4⟩ := oZ6.at cZ6 4 (hf 4 _ rfl)
  obtain ⟨x5, q5, r5⟩ := oD.at cD 5 (hf 5 _ rfl)
  refine ⟨⟨x0, x1, x2, x3, x4, x5⟩, ⟨q2, q4, q5⟩, hl, fun i p hp => ?_⟩
  match i, hp with
  | 0, hp => cases hp; exact r0 0 _ (by omega) rfl
  | 1, hp => cases hp; exact r1 0 _ (by omega) rfl
  | 2, hp => cases hp; exact r2 0 _ (by omega) rfl
  | 3, hp => cases hp; exact r3 0 _ (by omega) rfl
  | 4, hp => cases hp; exact r4 0 _ (by omega) rfl
  | 5, hp => cases hp; exact r5 0 _ (by omega) rfl
  | 6, hp => cases hp; exact r5 1 _ (by omega) rfl
  | 7, hp => cases hp; exact r5 2 _ (by omega) rfl
theorem oLS : Opens Try.prog 23 (fun l : List ByteArray => [lS l]) (fun l => ∀ x ∈ l, True) := opens_slice Try.underlying23 cS (by omega) oS fun _ => rfl
theorem oLI : Opens Try.prog 22 (fun l : List Item => [lI l]) (fun l => ∀ x ∈ l, WfI x) := opens_slice Try.underlying22 cI (by omega) oI fun _ => rfl
theorem cLS : Try.prog.cellsOf 23 = 1 := by kernel_rfl
theorem cV : Try.prog.cellsOf 25 = 4 := by kernel_rfl
theorem oV : Opens Try.prog 25 encV (fun v => I64 v.f2) := fun {H he w base spare held n cs y} h => by
  obtain ⟨xs, m, _, _, hl, hx, hf⟩ := DataW.trod_struct Try.underlying25 h
  rw [cV] at hl
  have hx : xs.length = 4 := hx
  obtain ⟨y0, y1, y2, y3, rfl⟩ := list4 hx
  obtain ⟨x0, q0, r0⟩ := oLS.at cLS 0 (hf 0 _ rfl)
  obtain ⟨x1, q1, r1⟩ := oLS.at cLS 1 (hf 1 _ rfl)
  obtain ⟨x2, q2, r2⟩ := oZ6.at cZ6 2 (hf 2 _ rfl)
  obtain ⟨x3, q3, r3⟩ := oB.at cB 3 (hf 3 _ rfl)
  refine ⟨⟨x0, x1, x2, x3⟩, q2, hl, fun i p hp => ?_⟩
  match i, hp with
  | 0, hp => cases hp; exact r0 0 _ (by omega) rfl
  | 1, hp => cases hp; exact r1 0 _ (by omega) rfl
  | 2, hp => cases hp; exact r2 0 _ (by omega) rfl
  | 3, hp => cases hp; exact r3 0 _ (by omega) rfl
end Go.E2.S
namespace Go.Proofs.Ytjejhkhofmkefaa.viewAll
open Go.ChangeShapes Go.WideShapes Go.ChangeAt Go.RowKit Go.E2 Go.E2.S
open Go.ChangeMaps (open_string shut_string)
set_option linter.unusedVariables false
set_option linter.unusedSimpArgs false
theorem own : ownKnob Try.prog.godebug = none := by kernel_rfl
theorem laidOut : laidOutB Try.prog = true := by kernel_rfl
set_option maxRecDepth 100000 in
theorem lifted (os : Os) (started : os.Started) (H : Type) (enc : TypeId × Value → H) :
    ReturnsInHanded {} Try.checked os 3 .any (Rows.viewAllSpec.pre6 enc Try.prog Try.f3 Rows.viewAllRow.domain false) (Rows.viewAllSpec.post enc Try.prog Try.f3 false true false false) := by
  refine returnsInHanded_of_change_sized (C := Try.checked) own started (by kernel_rfl) Try.func3
    (ChangeSpec.witness6 (enc := enc) (C := Try.checked) false ⟨#[], #[.slice none 0 0, .string ByteArray.empty, .string ByteArray.empty, .agg #[.slice none 0 0, .slice none 0 0, .int .i64 0, .bool false], .agg #[.slice none 0 0, .slice none 0 0, .int .i64 0, .bool false]], []⟩ 8 (by kernel_rfl) (by kernel_rfl) (by kernel_rfl) (by kernel_rfl)) ?_
  intro W base args ds gs before hval0 hW hcnd hsz0 _
  have hval : ∀ (j : Nat) t v, Try.f3.params[j]? = some t → args[j]? = some v → Value.okWide Try.prog W .any base t v := hval0
  have hW' := hW
  obtain ⟨p, q, hA0, hV, rfl, hfz, hnd⟩ := hW
  have hA : DataW.TrodAll enc Try.prog W 0 (fun _ => true) true Try.f3.params.toList args.toList ds p := hA0
  rw [Try.params3] at hA hval
  obtain ⟨v0, vs0, d0, ds0, p0, q0, hargs, rfl, rfl, h0, r0⟩ := trodAll_cons hA
  obtain ⟨v1, vs1, d1, ds1, p1, q1, rfl, rfl, rfl, h1, r1⟩ := trodAll_cons r0
  obtain ⟨v2, vs2, d2, ds2, p2, q2, rfl, rfl, rfl, h2, r2⟩ := trodAll_cons r1
  obtain ⟨v3, vs3, d3, ds3, p3, q3, rfl, rfl, rfl, h3, r3⟩ := trodAll_cons r2
  obtain ⟨v4, vs4, d4, ds4, p4, q4, rfl, rfl, rfl, h4, r4⟩ := trodAll_cons r3
  obtain ⟨rfl, rfl, rfl⟩ := trodAll_nil r4
  obtain rfl : args = #[v0, v1, v2, v3, v4] := by cases args; simp_all
  obtain ⟨rfl, rfl⟩ := trodVars_none hV
  have k0 := h0
  have lt0 : ∀ x ∈ p0, x.block < W.heap.size := by obtain ⟨m, hm⟩ := k0; exact DataW.trod_lt m _ _ _ hm
  obtain ⟨a0, len0, cap0, rfl⟩ := okWide_slice Try.underlying22 (hval 0 22 v0 rfl rfl)
  obtain ⟨fuel0, hf0⟩ := h0
  obtain ⟨x0, w0, hl0, hr0⟩ := oLI hf0
  have k1 := h1
  have lt1 : ∀ x ∈ p1, x.block < W.heap.size := by obtain ⟨m, hm⟩ := k1; exact DataW.trod_lt m _ _ _ hm
  obtain ⟨a1, rfl, _⟩ := open_string Try.underlying9 (hval 1 9 v1 rfl rfl) h1
  obtain ⟨fuel1, hf1⟩ := h1
  obtain ⟨x1, w1, hl1, hr1⟩ := oS hf1
  have k2 := h2
  have lt2 : ∀ x ∈ p2, x.block < W.heap.size := by obtain ⟨m, hm⟩ := k2; exact DataW.trod_lt m _ _ _ hm
  obtain ⟨a2, rfl, _⟩ := open_string Try.underlying9 (hval 2 9 v2 rfl rfl) h2
  obtain ⟨fuel2, hf2⟩ := h2
  obtain ⟨x2, w2, hl2, hr2⟩ := oS hf2
  have k3 := h3
  have lt3 : ∀ x ∈ p3, x.block < W.heap.size := by obtain ⟨m, hm⟩ := k3; exact DataW.trod_lt m _ _ _ hm
  obtain ⟨cs3, rfl, _⟩ := okWide_struct Try.underlying25 (hval 3 25 v3 rfl rfl)
  obtain ⟨fuel3, hf3⟩ := h3
  obtain ⟨x3, w3, hl3, hr3⟩ := oV hf3
  have k4 := h4
  have lt4 : ∀ x ∈ p4, x.block < W.heap.size := by obtain ⟨m, hm⟩ := k4; exact DataW.trod_lt m _ _ _ hm
  obtain ⟨cs4, rfl, _⟩ := okWide_struct Try.underlying25 (hval 4 25 v4 rfl rfl)
  obtain ⟨fuel4, hf4⟩ := h4
  obtain ⟨x4, w4, hl4, hr4⟩ := oV hf4
  clear hA0 hval0 hsz0
  have hrep : ∀ (i : Nat) (x : V1), ([pv (lI x0), sv x1, sv x2, ag (encV x3), ag (encV x4)] : List V1)[i]? = some x → RepV1 (obsL []) ⟨fun _ => none, fun _ => 0, allOf W⟩ x ((#[.slice a0 len0 cap0, .string a1, .string a2, .agg cs3, .agg cs4] : Array Value).getD i undef) := fun i x hx => by
    match i, hx with
    | 0, hx => cases hx; exact rep_at (hr0 0 _ rfl)
    | 1, hx => cases hx; exact rep_at (hr1 0 _ rfl)
    | 2, hx => cases hx; exact rep_at (hr2 0 _ rfl)
    | 3, hx => cases hx; exact rep_agg hl3 hr3
    | 4, hx => cases hx; exact rep_agg hl4 hr4
  refine (Spec.law (ans_spec hE hL (viewAll x0 x1 x2 x3 x4 w0)) rfl hrep).mono fun e W' ⟨he, bel⟩ => ?_
  subst he
  exact ⟨_, rfl, _, _, _, [], _, [], hW', trodAll_mk1 (shut_bool Try.underlying4 _), (trodAll_cons_mk (Below.trod laidOut (by kernel_rfl) (of_decide_eq_true (by kernel_rfl)) k0 bel lt0) (trodAll_cons_mk (Below.trod laidOut (by kernel_rfl) (of_decide_eq_true (by kernel_rfl)) k1 bel lt1) (trodAll_cons_mk (Below.trod laidOut (by kernel_rfl) (of_decide_eq_true (by kernel_rfl)) k2 bel lt2) (trodAll_cons_mk (Below.trod laidOut (by kernel_rfl) (of_decide_eq_true (by kernel_rfl)) k3 bel lt3) (trodAll_cons_mk (Below.trod laidOut (by kernel_rfl) (of_decide_eq_true (by kernel_rfl)) k4 bel lt4) trodAll_mk0))))), rfl, bel.frame _, fun h => by cases h⟩
theorem over : Rows.viewAllRow.holds Try.pinned (OpenSpec.ofChange Rows.viewAllSpec) :=
  OpenClaim.holds_of_wide 3 Try.f3 rfl rfl rfl rfl rfl rfl rfl ⟨rfl, rfl, rfl, rfl, rfl⟩ rfl rfl rfl rfl rfl (by kernel_rfl) Try.func3 (by kernel_rfl)
    (of_decide_eq_true (by kernel_rfl)) (by unfold Func.isWrapper; first | (rw [if_pos (by decide +kernel)]; kernel_rfl) | (rw [if_neg (by decide +kernel)]; exact ⟨rfl, rfl⟩))
    (fun os started H enc _ => lifted os started H enc)
theorem proved : Rows.ViewAllSaid := over
#print axioms proved
end Go.Proofs.Ytjejhkhofmkefaa.viewAll
namespace Go.Proofs.Ytjejhkhofmkefaa
theorem viewAll_holds : Rows.ViewAllSaid := viewAll.proved
end Go.Proofs.Ytjejhkhofmkefaa
