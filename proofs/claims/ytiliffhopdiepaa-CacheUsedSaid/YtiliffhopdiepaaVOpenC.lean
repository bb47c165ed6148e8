/- The program's types, opened: what is done to a cache (printed by opens.py). -/
import Derived.Test.YtiliffhopdiepaaVOpen
import Derived.Test.YtiliffhopdiepaaVC3
namespace Go.E2.S
open Go Go.E2 Go.RowKit Go.Proofs
set_option linter.unusedVariables false
set_option linter.unusedSimpArgs false
theorem cLI : Try.prog.cellsOf 27 = 1 := by kernel_rfl
theorem lenOC {α : Type} : ∀ {l : List α}, l.length = 5 → ∃ a0 a1 a2 a3 a4, l = [a0, a1, a2, a3, a4]
  | [a0, a1, a2, a3, a4], _ => ⟨a0, a1, a2, a3, a4, rfl⟩
def WfOC (x : OpC) : Prop := (I64 x.f0) ∧ (∀ y ∈ x.f1, WfI y)
instance : Inhabited OpC := ⟨⟨0, [], [], ByteArray.empty, []⟩⟩
theorem cOC : Try.prog.cellsOf 42 = 5 := by kernel_rfl
theorem oOC : Opens Try.prog 42 encOC WfOC := fun {H he w base spare held n cs y} h => by
  obtain ⟨xs, m, _, _, hl, hx, hf⟩ := DataW.trod_struct Try.underlying42 h
  rw [cOC] at hl
  have hx : xs.length = 5 := hx
  obtain ⟨y0, y1, y2, y3, y4, rfl⟩ := lenOC hx
  obtain ⟨x0, q0, r0⟩ := oZ.at cZ 0 (hf 0 _ rfl)
  obtain ⟨x1, q1, r1⟩ := oLI.at cLI 1 (hf 1 _ rfl)
  obtain ⟨x2, q2, r2⟩ := oLS.at cLS 2 (hf 2 _ rfl)
  obtain ⟨x3, q3, r3⟩ := oS.at cS 3 (hf 3 _ rfl)
  obtain ⟨x4, q4, r4⟩ := oLS.at cLS 4 (hf 4 _ rfl)
  refine ⟨⟨x0, x1, x2, x3, x4⟩, ⟨q0, q1⟩, hl, fun i p hp => ?_⟩
  match i, hp with
  | 0, hp => cases hp; exact r0 0 _ (by omega) rfl
  | 1, hp => cases hp; exact r1 0 _ (by omega) rfl
  | 2, hp => cases hp; exact r2 0 _ (by omega) rfl
  | 3, hp => cases hp; exact r3 0 _ (by omega) rfl
  | 4, hp => cases hp; exact r4 0 _ (by omega) rfl
theorem oLOC : Opens Try.prog 39 (fun l : List OpC => [lOC l]) (fun l => ∀ x ∈ l, WfOC x) := opens_slice Try.underlying39 cOC (by omega) oOC fun _ => rfl
theorem cLOC : Try.prog.cellsOf 39 = 1 := by kernel_rfl
end Go.E2.S
