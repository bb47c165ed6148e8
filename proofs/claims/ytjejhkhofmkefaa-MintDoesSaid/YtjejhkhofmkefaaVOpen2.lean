/- The program's types, opened: with the bounds of texts; dots. -/
import Derived.Test.YtjejhkhofmkefaaVOpen
namespace Go.E2.S
open Go Go.E2 Go.RowKit Go.Proofs
set_option linter.unusedVariables false
set_option linter.unusedSimpArgs false
def SzS (s : ByteArray) : Prop := s.size ≤ 9223372036854775807
def WfJ (x : Item) : Prop := WfI x ∧ SzS x.f0 ∧ SzS x.f1 ∧ SzS x.f3
theorem opens_strB {P : Program} {t : TypeId} (ht : P.underlying t = some .string) : Opens P t encS SzS := fun h => by
  obtain ⟨s, rfl, _, hs⟩ := DataW.trod_string ht h
  exact ⟨s, Nat.le_trans hs (by decide), rfl, one_rep (.str s)⟩
theorem oSB : Opens Try.prog 9 encS SzS := opens_strB Try.underlying9
theorem oIB : Opens Try.prog 40 encI WfJ := fun {H he w base spare held n cs y} h => by
  obtain ⟨xs, m, _, _, hl, hx, hf⟩ := DataW.trod_struct Try.underlying40 h
  rw [cI] at hl
  have hx : xs.length = 6 := hx
  obtain ⟨y0, y1, y2, y3, y4, y5, rfl⟩ := list6 hx
  obtain ⟨x0, q0, r0⟩ := oSB.at cS 0 (hf 0 _ rfl)
  obtain ⟨x1, q1, r1⟩ := oSB.at cS 1 (hf 1 _ rfl)
  obtain ⟨x2, q2, r2⟩ := oZ.at cZ 2 (hf 2 _ rfl)
  obtain ⟨x3, q3, r3⟩ := oSB.at cS 3 (hf 3 _ rfl)
  obtain ⟨x4, q4, r4⟩ := oZ6.at cZ6 4 (hf 4 _ rfl)
  obtain ⟨x5, q5, r5⟩ := oD.at cD 5 (hf 5 _ rfl)
  refine ⟨⟨x0, x1, x2, x3, x4, x5⟩, ⟨⟨q2, q4, q5⟩, q0, q1, q3⟩, hl, fun i p hp => ?_⟩
  match i, hp with
  | 0, hp => cases hp; exact r0 0 _ (by omega) rfl
  | 1, hp => cases hp; exact r1 0 _ (by omega) rfl
  | 2, hp => cases hp; exact r2 0 _ (by omega) rfl
  | 3, hp => cases hp; exact r3 0 _ (by omega) rfl
  | 4, hp => cases hp; exact r4 0 _ (by omega) rfl
  | 5, hp => cases hp; exact r5 0 _ (by omega) rfl
  | 6, hp => cases hp; exact r5 1 _ (by omega) rfl
  | 7, hp => cases hp; exact r5 2 _ (by omega) rfl
theorem oLD : Opens Try.prog 41 (fun l : List Dot => [lD l]) (fun l => ∀ x ∈ l, WfD x) := opens_slice Try.underlying41 cD (by omega) oD fun _ => rfl
end Go.E2.S
