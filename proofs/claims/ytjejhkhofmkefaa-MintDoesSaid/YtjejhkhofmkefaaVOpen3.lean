/- The program's types, opened: requests. -/
import Derived.Test.YtjejhkhofmkefaaVOpen2
import Derived.Test.YtjejhkhofmkefaaVLw1
namespace Go.E2.S
open Go Go.E2 Go.RowKit Go.Proofs
set_option linter.unusedVariables false
set_option linter.unusedSimpArgs false
theorem list5 {α : Type} : ∀ {l : List α}, l.length = 5 → ∃ a b c d e, l = [a, b, c, d, e]
  | [a, b, c, d, e], _ => ⟨a, b, c, d, e, rfl⟩
instance : Inhabited Req := ⟨⟨0, ByteArray.empty, ByteArray.empty, ByteArray.empty, 0⟩⟩
theorem cQ : Try.prog.cellsOf 51 = 5 := by kernel_rfl
theorem oQ : Opens Try.prog 51 encQ WfQ := fun {H he w base spare held n cs y} h => by
  obtain ⟨xs, m, _, _, hl, hx, hf⟩ := DataW.trod_struct Try.underlying51 h
  rw [cQ] at hl
  have hx : xs.length = 5 := hx
  obtain ⟨y0, y1, y2, y3, y4, rfl⟩ := list5 hx
  obtain ⟨x0, q0, r0⟩ := oZ.at cZ 0 (hf 0 _ rfl)
  obtain ⟨x1, q1, r1⟩ := oS.at cS 1 (hf 1 _ rfl)
  obtain ⟨x2, q2, r2⟩ := oS.at cS 2 (hf 2 _ rfl)
  obtain ⟨x3, q3, r3⟩ := oS.at cS 3 (hf 3 _ rfl)
  obtain ⟨x4, q4, r4⟩ := oZ6.at cZ6 4 (hf 4 _ rfl)
  refine ⟨⟨x0, x1, x2, x3, x4⟩, ⟨q0, q4⟩, hl, fun i p hp => ?_⟩
  match i, hp with
  | 0, hp => cases hp; exact r0 0 _ (by omega) rfl
  | 1, hp => cases hp; exact r1 0 _ (by omega) rfl
  | 2, hp => cases hp; exact r2 0 _ (by omega) rfl
  | 3, hp => cases hp; exact r3 0 _ (by omega) rfl
  | 4, hp => cases hp; exact r4 0 _ (by omega) rfl
theorem oLQ : Opens Try.prog 52 (fun l : List Req => [lQ l]) (fun l => ∀ x ∈ l, WfQ x) := opens_slice Try.underlying52 cQ (by omega) oQ fun _ => rfl
end Go.E2.S
