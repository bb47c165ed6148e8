/- The program's types, opened. -/
import Derived.Test.YtiliffhopdiepaaE14
import Derived.Test.YtiliffhopdiepaaSEnv
import Derived.Test.YtiliffhopdiepaaVPlain
namespace Go.E2.S
open Go Go.E2 Go.RowKit Go.Proofs
set_option linter.unusedVariables false
set_option linter.unusedSimpArgs false
theorem list3 {α : Type} : ∀ {l : List α}, l.length = 3 → ∃ a b c, l = [a, b, c]
  | [a, b, c], _ => ⟨a, b, c, rfl⟩
theorem list4 {α : Type} : ∀ {l : List α}, l.length = 4 → ∃ a b c d, l = [a, b, c, d]
  | [a, b, c, d], _ => ⟨a, b, c, d, rfl⟩
theorem list6 {α : Type} : ∀ {l : List α}, l.length = 6 → ∃ a b c d e f, l = [a, b, c, d, e, f]
  | [a, b, c, d, e, f], _ => ⟨a, b, c, d, e, f, rfl⟩
instance : Inhabited Dot := ⟨⟨0, 0, 0⟩⟩
instance : Inhabited Item := ⟨⟨ByteArray.empty, ByteArray.empty, 0, ByteArray.empty, 0, default⟩⟩
instance : Inhabited Val := ⟨⟨[], [], 0, false⟩⟩
theorem oS : Opens Try.prog 9 encS (fun _ => True) := opens_str Try.underlying9
theorem oZ : Opens Try.prog 3 encZ I64 := opens_int Try.underlying3
theorem oZ6 : Opens Try.prog 2 encZ I64 := opens_int Try.underlying2
theorem oB : Opens Try.prog 4 (fun b : Bool => [.bool b]) (fun _ => True) := opens_bool Try.underlying4
theorem cZ : Try.prog.cellsOf 3 = 1 := by kernel_rfl
theorem cZ6 : Try.prog.cellsOf 2 = 1 := by kernel_rfl
theorem cS : Try.prog.cellsOf 9 = 1 := by kernel_rfl
theorem cB : Try.prog.cellsOf 4 = 1 := by kernel_rfl
theorem cD : Try.prog.cellsOf 24 = 3 := by kernel_rfl
theorem cI : Try.prog.cellsOf 26 = 8 := by kernel_rfl
theorem oD : Opens Try.prog 24 encD WfD := fun {H he w base spare held n cs y} h => by
  obtain ⟨xs, m, _, _, hl, hx, hf⟩ := DataW.trod_struct Try.underlying24 h
  rw [cD] at hl
  have hx : xs.length = 3 := hx
  obtain ⟨y0, y1, y2, rfl⟩ := list3 hx
  obtain ⟨x0, q0, r0⟩ := oZ.at cZ 0 (hf 0 _ rfl)
  obtain ⟨x1, q1, r1⟩ := oZ.at cZ 1 (hf 1 _ rfl)
  obtain ⟨x2, q2, r2⟩ := oZ.at cZ 2 (hf 2 _ rfl)
  refine ⟨⟨x0, x1, x2⟩, ⟨q0, q1, q2⟩, hl, fun i p hp => ?_⟩
  match i, hp with
  | 0, hp => cases hp; exact r0 0 _ (by omega) rfl
  | 1, hp => cases hp; exact r1 0 _ (by omega) rfl
  | 2, hp => cases hp; exact r2 0 _ (by omega) rfl
theorem oI : Opens Try.prog 26 encI WfI := fun {H he w base spare held n cs y} h => by
  obtain ⟨xs, m, _, _, hl, hx, hf⟩ := DataW.trod_struct Try.underlying26 h
  rw [cI] at hl
  have hx : xs.length = 6 := hx
  obtain ⟨y0, y1, y2, y3, y4, y5, rfl⟩ := list6 hx
  obtain ⟨x0, q0, r0⟩ := oS.at cS 0 (hf 0 _ rfl)
  obtain ⟨x1, q1, r1⟩ := oS.at cS 1 (hf 1 _ rfl)
  obtain ⟨x2, q2, r2⟩ := oZ.at cZ 2 (hf 2 _ rfl)
  obtain ⟨x3, q3, r3⟩ := oS.at cS 3 (hf 3 _ rfl)
  obtain ⟨x4, q4, r4⟩ := oZ6.at cZ6 4 (hf 4 _ rfl)
  obtain ⟨x5, q5, r5⟩ := oD.at cD 5 (hf 5 _ rfl)
  refine ⟨⟨x0, x1, x2, x3, x4, x5⟩, ⟨q2, q4, q5⟩, hl, fun i p hp => ?_⟩
  match i, hp with
  | 0, hp => cases hp; exact r0 0 _ (by omega) rfl
  | 1, hp => cases hp; exact r1 0 _ (by omega) rfl
  | 2, hp => cases hp; exact r2 0 _ (by omega) rfl
  | 3, hp => cases hp; exact r3 0 _ (by omega) rfl
  | 4, hp => cases hp; exact r4 0 _ (by omega) rfl
  | 5, hp => cases hp; exact r5 0 _ (by omega) rfl
  | 6, hp => cases hp; exact r5 1 _ (by omega) rfl
  | 7, hp => cases hp; exact r5 2 _ (by omega) rfl
theorem oLS : Opens Try.prog 28 (fun l : List ByteArray => [lS l]) (fun l => ∀ x ∈ l, True) := opens_slice Try.underlying28 cS (by omega) oS fun _ => rfl
theorem oLI : Opens Try.prog 27 (fun l : List Item => [lI l]) (fun l => ∀ x ∈ l, WfI x) := opens_slice Try.underlying27 cI (by omega) oI fun _ => rfl
theorem cLS : Try.prog.cellsOf 28 = 1 := by kernel_rfl
theorem openBool {P : Program} {w : World} {r : Reach} {base : Nat} {t : TypeId} {v : Value} (ht : P.underlying t = some .bool) (h : Value.okWide P w r base t v) : ∃ b, v = .bool b := by
  simp only [Value.okWide, ht, Cell.okWide] at h
  cases v <;> simp_all [Cell.ok]
end Go.E2.S
