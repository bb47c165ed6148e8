/- The engine, part 14: VRow. -/
import Derived.WalkKit
import Derived.ProofKit
import Derived.OpenShut
import Derived.ShutString
import Derived.ChangeOld
import Derived.SizedLaws
import Derived.Carry
import Derived.Below
import Derived.Deep.Slices
import Derived.Test.YtjejhkhofmkefaaE11
namespace Go.E2
open Go.RowKit Go.ChangeShapes Go.WideShapes
set_option linter.unusedVariables false
set_option linter.unusedSimpArgs false
variable {P : Program}
def allOf (w : World) : Gh := fun b o => w.cell? ⟨b, o, none⟩
theorem cell_spot {w : World} {a : Addr} {v : Value} (h : w.cell? a = some v) : a = ⟨a.block, a.off, none⟩ := by
  cases a with
  | mk b o s =>
    cases s with
    | none => rfl
    | some s =>
      unfold World.cell? at h
      split at h <;> simp at h
theorem add_mk (b o i : Nat) : (⟨b, o, none⟩ : Addr).add i = ⟨b, o + i, none⟩ := by
  unfold Addr.add
  split
  · rename_i h; subst h; rfl
  · rfl
def Opens (P : Program) (t : TypeId) {α : Type} (enc : α → List PV) (Q : α → Prop) : Prop :=
  ∀ {H : Type} {he : TypeId × Value → H} {w : World} {base : Nat} {spare : Nat → Bool} {held : Bool} {n : Nat} {cs : List Value} {y : DataW H × List MemPlace}, DataW.trod he P w base spare held n t cs = some y →
    ∃ x, Q x ∧ cs.length = (enc x).length ∧ ∀ i p, (enc x)[i]? = some p → Rep (allOf w) p (cs.getD i undef)
def I64q (x : Int) : Prop := -9223372036854775808 ≤ x ∧ x ≤ 9223372036854775807
theorem wf64q {x : Int} (h : (Lit.int .i64 x).wf = true) : I64q x := by
  simp [Lit.wf, IntKind.min, IntKind.max, IntKind.bits, IntKind.signed] at h
  unfold I64q
  omega
theorem one_rep {G : Gh} {q : PV} {v : Value} (h : Rep G q v) : ∀ i p, ([q] : List PV)[i]? = some p → Rep G p (([v] : List Value).getD i undef) := fun i p hp => by
  match i, hp with
  | 0, hp => cases hp; exact h
theorem opens_str {t : TypeId} (ht : P.underlying t = some .string) : Opens P t encS (fun _ => True) := fun h => by
  obtain ⟨s, rfl, _⟩ := DataW.trod_string ht h
  exact ⟨s, trivial, rfl, one_rep (.str s)⟩
theorem opens_int {t : TypeId} (ht : P.underlying t = some (.int .i64)) : Opens P t encZ I64q := fun h => by
  obtain ⟨s, rfl, _, hw⟩ := DataW.trod_int ht h
  exact ⟨s, wf64q hw, rfl, one_rep (.int _ s)⟩
theorem opens_bool {t : TypeId} (ht : P.underlying t = some .bool) : Opens P t (fun b : Bool => [.bool b]) (fun _ => True) := fun h => by
  obtain ⟨s, rfl, _⟩ := DataW.trod_bool ht h
  exact ⟨s, trivial, rfl, one_rep (.bool s)⟩
theorem opens_slice {t e : TypeId} {α : Type} [Inhabited α] {enc : α → List PV} {Q : α → Prop} {k : Nat} (ht : P.underlying t = some (.slice e)) (hc : P.cellsOf e = k) (hk : 0 < k) (he : Opens P e enc Q) (hl : ∀ x, (enc x).length = k) :
    Opens P t (fun l : List α => [.list k (l.map enc)]) (fun l => ∀ x ∈ l, Q x) := fun {H hen w base spare held n cs y} h => by
  rcases Go.Deep.open_slice ht h with ⟨rfl, _⟩ | ⟨ad, len, cap, m, n, D, Pl, rfl, _, hlc, hm, hmm, _, hx⟩
  · exact ⟨[], by simp, rfl, one_rep (.nil k none 0)⟩
  · have hlm : len ≤ m := by rw [hmm]; split <;> omega
    obtain ⟨f, hf⟩ := Go.Deep.choose_lt (α := α) (n := len) (p := fun i p => ∃ cs', w.cells? base (ad.add (i * P.cellsOf e)) (P.cellsOf e) = some cs' ∧ Q p ∧ ∀ j q, (enc p)[j]? = some q → Rep (allOf w) q (cs'.getD j undef)) (fun i hi => by
      obtain ⟨cs', h1, h2⟩ := hx i (by omega)
      obtain ⟨p, hp, _, hq⟩ := he h2
      exact ⟨p, cs', h1, hp, hq⟩)
    refine ⟨(List.range len).map f, fun x hx => ?_, rfl, one_rep ?_⟩
    · obtain ⟨j, hj, rfl⟩ := List.mem_map.1 hx
      obtain ⟨_, _, hq, _⟩ := hf j (List.mem_range.1 hj)
      exact hq
    · rcases Nat.eq_zero_or_pos len with h0 | h0
      · subst h0
        exact .nil k _ _
      · have cell : ∀ j, j < len → ∀ i, i < k → ∃ v, w.cell? (ad.add (j * k + i)) = some v ∧ ∀ q, (enc (f j))[i]? = some q → Rep (allOf w) q v := fun j hj i hi => by
          obtain ⟨cs', h1, _, h3⟩ := hf j hj
          rw [hc] at h1
          obtain ⟨_, hlen, hcell⟩ := World.cells?_some h1
          have := hcell i (by omega)
          rw [Go.Deep.add_add] at this
          refine ⟨cs'.getD i undef, ?_, h3 i⟩
          rw [this, List.getD_eq_getElem?_getD, List.getElem?_eq_getElem (by omega)]
          rfl
        obtain ⟨v0, c0, _⟩ := cell 0 h0 0 hk
        have had : ad = ⟨ad.block, ad.off, none⟩ := cell_spot (a := ad) (by simpa [Addr.add] using c0)
        have hr := Rep.list (G := allOf w) k (((List.range len).map f).map enc) ad.block ad.off cap (fun j i => (w.cell? (ad.add (j * k + i))).getD undef) (by simp; omega)
          (fun j y hy => by
            obtain ⟨z, _, rfl⟩ := map_get hy
            exact hl z)
          (fun j y i z hy hz => by
            obtain ⟨q, hq, rfl⟩ := map_get hy
            obtain ⟨jj, hjj, rfl⟩ := map_get hq
            obtain ⟨hj, e1⟩ := List.getElem?_eq_some_iff.1 hjj
            simp at hj e1
            subst e1
            have hi := (List.getElem?_eq_some_iff.1 hz).1
            rw [hl] at hi
            obtain ⟨v, h1, _⟩ := cell j hj i hi
            rw [h1]
            rw [had, add_mk] at h1
            rw [Nat.add_assoc]
            exact h1)
          (fun j y i z hy hz => by
            obtain ⟨q, hq, rfl⟩ := map_get hy
            obtain ⟨jj, hjj, rfl⟩ := map_get hq
            obtain ⟨hj, e1⟩ := List.getElem?_eq_some_iff.1 hjj
            simp at hj e1
            subst e1
            have hi := (List.getElem?_eq_some_iff.1 hz).1
            rw [hl] at hi
            obtain ⟨v, h1, h2⟩ := cell j hj i hi
            rw [h1]
            exact h2 z hz)
        have hn : (((List.range len).map f).map enc).length = len := by simp
        rw [hn, ← had] at hr
        exact hr
theorem fld {cs : List Value} {off n k : Nat} (h : k < n) : ((cs.drop off).take n).getD k undef = cs.getD (off + k) undef := by
  rw [List.getD_eq_getElem?_getD, List.getD_eq_getElem?_getD, List.getElem?_take_of_lt h, List.getElem?_drop]
theorem Opens.at {t : TypeId} {α : Type} {enc : α → List PV} {Q : α → Prop} (ho : Opens P t enc Q) {k : Nat} (hc : P.cellsOf t = k) (off : Nat) {H : Type} {he : TypeId × Value → H} {w : World} {base : Nat} {spare : Nat → Bool} {held : Bool} {n : Nat} {cs : List Value} {y : DataW H × List MemPlace}
    (h : DataW.trod he P w base spare held n t ((cs.drop off).take (P.cellsOf t)) = some y) : ∃ x, Q x ∧ ∀ i p, i < k → (enc x)[i]? = some p → Rep (allOf w) p (cs.getD (off + i) undef) := by
  obtain ⟨x, q, l, r⟩ := ho h
  refine ⟨x, q, fun i p hi hp => ?_⟩
  have := r i p hp
  rw [hc, fld hi] at this
  exact this
theorem Spec.law {f : FuncId} {args : List V1} {vs : Array Value} {w : World} (h : Spec P f args [] (.one (bv true)) []) (hs : vs.size = args.length) (ha : ∀ i x, args[i]? = some x → RepV1 (obsL []) ⟨fun _ => none, fun _ => 0, allOf w⟩ x (vs.getD i undef)) :
    Calls P f vs w fun e w' => e = .returned (.bool true) ∧ Below w.heap.size w w' :=
  (h w ⟨fun _ => none, fun _ => 0, allOf w⟩ vs ⟨fun _ _ _ h => h, fun i o h => by simp at h, fun i i' o o' b h => by simp at h⟩ hs ha).mono fun e w' ⟨v, c, he, hO⟩ => ⟨by
    have h1 : Rep c.G (.bool true) v := hO.rep
    cases h1
    exact he, ⟨hO.fr.os, hO.fr.tape, hO.fr.output, hO.fr.size, fun k hk => hO.fr.block k hk fun ⟨i, o, h, _⟩ => by simp at h⟩⟩
theorem rep_at {w : World} {p : PV} {v : Value} {ob : Obs} (h : Rep (allOf w) p v) : RepV1 ob ⟨fun _ => none, fun _ => 0, allOf w⟩ (pv p) v := h
theorem rep_agg {w : World} {l : List PV} {cs : Array Value} {ob : Obs} (hl : cs.toList.length = l.length) (h : ∀ i p, l[i]? = some p → Rep (allOf w) p (cs.toList.getD i undef)) : RepV1 ob ⟨fun _ => none, fun _ => 0, allOf w⟩ (ag l) (.agg cs) := by
  refine ⟨cs, rfl, by simpa using hl, fun i x hx => ?_⟩
  obtain ⟨p, hp, rfl⟩ := map_get hx
  have := h i p hp
  rw [List.getD_eq_getElem?_getD, Array.getElem?_toList] at this
  show Rep _ p _
  rw [Array.getD_eq_getD_getElem?]
  exact this
end Go.E2
