/- VOpenA: VOpen, VOpen2. -/
import Derived.Test.YtiliffhopdiepaaGreatE14
import Derived.Test.YtiliffhopdiepaaGreatSEnv
import Derived.Test.YtiliffhopdiepaaGreatVPlain

/-! The program's types, opened. -/
namespace Go.E2.S
open Go Go.E2 Go.RowKit Go.Proofs
set_option linter.unusedVariables false
set_option linter.unusedSimpArgs false
theorem list3 {α : Type} : ∀ {l : List α}, l.length = 3 → ∃ a b c, l = [a, b, c]
  | [a, b, c], _ => ⟨a, b, c, rfl⟩
theorem list4 {α : Type} : ∀ {l : List α}, l.length = 4 → ∃ a b c d, l = [a, b, c, d]
  | [a, b, c, d], _ => ⟨a, b, c, d, rfl⟩
theorem list6 {α : Type} : ∀ {l : List α}, l.length = 6 → ∃ a b c d e f, l = [a, b, c, d, e, f]
  | [a, b, c, d, e, f], _ => ⟨a, b, c, d, e, f, rfl⟩
instance : Inhabited Dot := ⟨⟨0, 0, 0⟩⟩
instance : Inhabited Item := ⟨⟨ByteArray.empty, ByteArray.empty, 0, ByteArray.empty, 0, default⟩⟩
instance : Inhabited Val := ⟨⟨[], [], 0, false⟩⟩
theorem oS : Opens Tryz.prog 9 encS (fun _ => True) := opens_str Tryz.underlying9
theorem oZ : Opens Tryz.prog 3 encZ I64 := opens_int Tryz.underlying3
theorem oZ6 : Opens Tryz.prog 2 encZ I64 := opens_int Tryz.underlying2
theorem oBl : Opens Tryz.prog 4 (fun b : Bool => [.bool b]) (fun _ => True) := opens_bool Tryz.underlying4
theorem cZ : Tryz.prog.cellsOf 3 = 1 := by kernel_rfl
theorem cZ6 : Tryz.prog.cellsOf 2 = 1 := by kernel_rfl
theorem cS : Tryz.prog.cellsOf 9 = 1 := by kernel_rfl
theorem cB : Tryz.prog.cellsOf 4 = 1 := by kernel_rfl
theorem cD : Tryz.prog.cellsOf 45 = 3 := by kernel_rfl
theorem cI : Tryz.prog.cellsOf 47 = 8 := by kernel_rfl
theorem oD : Opens Tryz.prog 45 encD WfD := fun {H he w base spare held n cs y} h => by
  obtain ⟨xs, m, _, _, hl, hx, hf⟩ := DataW.trod_struct Tryz.underlying45 h
  rw [cD] at hl
  have hx : xs.length = 3 := hx
  obtain ⟨y0, y1, y2, rfl⟩ := list3 hx
  obtain ⟨x0, q0, r0⟩ := oZ.at cZ 0 (hf 0 _ rfl)
  obtain ⟨x1, q1, r1⟩ := oZ.at cZ 1 (hf 1 _ rfl)
  obtain ⟨x2, q2, r2⟩ := oZ.at cZ 2 (hf 2 _ rfl)
  refine ⟨⟨x0, x1, x2⟩, ⟨q0, q1, q2⟩, hl, fun i p hp => ?_⟩
  match i, hp with
  | 0, hp => cases hp; exact r0 0 _ (by omega) rfl
  | 1, hp => cases hp; exact r1 0 _ (by omega) rfl
  | 2, hp => cases hp; exact r2 0 _ (by omega) rfl
theorem oI : Opens Tryz.prog 47 encI WfI := fun {H he w base spare held n cs y} h => by
  obtain ⟨xs, m, _, _, hl, hx, hf⟩ := DataW.trod_struct Tryz.underlying47 h
  rw [cI] at hl
  have hx : xs.length = 6 := hx
  obtain ⟨y0, y1, y2, y3, y4, y5, rfl⟩ := list6 hx
  obtain ⟨x0, q0, r0⟩ := oS.at cS 0 (hf 0 _ rfl)
  obtain ⟨x1, q1, r1⟩ := oS.at cS 1 (hf 1 _ rfl)
  obtain ⟨x2, q2, r2⟩ := oZ.at cZ 2 (hf 2 _ rfl)
  obtain ⟨x3, q3, r3⟩ := oS.at cS 3 (hf 3 _ rfl)
  obtain ⟨x4, q4, r4⟩ := oZ6.at cZ6 4 (hf 4 _ rfl)
  obtain ⟨x5, q5, r5⟩ := oD.at cD 5 (hf 5 _ rfl)
  refine ⟨⟨x0, x1, x2, x3, x4, x5⟩, ⟨q2, q4, q5⟩, hl, fun i p hp => ?_⟩
  match i, hp with
  | 0, hp => cases hp; exact r0 0 _ (by omega) rfl
  | 1, hp => cases hp; exact r1 0 _ (by omega) rfl
  | 2, hp => cases hp; exact r2 0 _ (by omega) rfl
  | 3, hp => cases hp; exact r3 0 _ (by omega) rfl
  | 4, hp => cases hp; exact r4 0 _ (by omega) rfl
  | 5, hp => cases hp; exact r5 0 _ (by omega) rfl
  | 6, hp => cases hp; exact r5 1 _ (by omega) rfl
  | 7, hp => cases hp; exact r5 2 _ (by omega) rfl
theorem oLS : Opens Tryz.prog 24 (fun l : List ByteArray => [lS l]) (fun l => ∀ x ∈ l, True) := opens_slice Tryz.underlying24 cS (by omega) oS fun _ => rfl
theorem oLI : Opens Tryz.prog 25 (fun l : List Item => [lI l]) (fun l => ∀ x ∈ l, WfI x) := opens_slice Tryz.underlying25 cI (by omega) oI fun _ => rfl
theorem cLS : Tryz.prog.cellsOf 24 = 1 := by kernel_rfl
theorem openBool {P : Program} {w : World} {r : Reach} {base : Nat} {t : TypeId} {v : Value} (ht : P.underlying t = some .bool) (h : Value.okWide P w r base t v) : ∃ b, v = .bool b := by
  simp only [Value.okWide, ht, Cell.okWide] at h
  cases v <;> simp_all [Cell.ok]
end Go.E2.S
/-! The program's types, opened: with the bounds of texts; dots. -/
namespace Go.E2.S
open Go Go.E2 Go.RowKit Go.Proofs
set_option linter.unusedVariables false
set_option linter.unusedSimpArgs false
def SzS (s : ByteArray) : Prop := s.size ≤ 9223372036854775807
def WfJ (x : Item) : Prop := WfI x ∧ SzS x.f0 ∧ SzS x.f1 ∧ SzS x.f3
theorem opens_strB {P : Program} {t : TypeId} (ht : P.underlying t = some .string) : Opens P t encS SzS := fun h => by
  obtain ⟨s, rfl, _, hs⟩ := DataW.trod_string ht h
  exact ⟨s, Nat.le_trans hs (by decide), rfl, one_rep (.str s)⟩
theorem oSB : Opens Tryz.prog 9 encS SzS := opens_strB Tryz.underlying9
theorem oIB : Opens Tryz.prog 47 encI WfJ := fun {H he w base spare held n cs y} h => by
  obtain ⟨xs, m, _, _, hl, hx, hf⟩ := DataW.trod_struct Tryz.underlying47 h
  rw [cI] at hl
  have hx : xs.length = 6 := hx
  obtain ⟨y0, y1, y2, y3, y4, y5, rfl⟩ := list6 hx
  obtain ⟨x0, q0, r0⟩ := oSB.at cS 0 (hf 0 _ rfl)
  obtain ⟨x1, q1, r1⟩ := oSB.at cS 1 (hf 1 _ rfl)
  obtain ⟨x2, q2, r2⟩ := oZ.at cZ 2 (hf 2 _ rfl)
  obtain ⟨x3, q3, r3⟩ := oSB.at cS 3 (hf 3 _ rfl)
  obtain ⟨x4, q4, r4⟩ := oZ6.at cZ6 4 (hf 4 _ rfl)
  obtain ⟨x5, q5, r5⟩ := oD.at cD 5 (hf 5 _ rfl)
  refine ⟨⟨x0, x1, x2, x3, x4, x5⟩, ⟨⟨q2, q4, q5⟩, q0, q1, q3⟩, hl, fun i p hp => ?_⟩
  match i, hp with
  | 0, hp => cases hp; exact r0 0 _ (by omega) rfl
  | 1, hp => cases hp; exact r1 0 _ (by omega) rfl
  | 2, hp => cases hp; exact r2 0 _ (by omega) rfl
  | 3, hp => cases hp; exact r3 0 _ (by omega) rfl
  | 4, hp => cases hp; exact r4 0 _ (by omega) rfl
  | 5, hp => cases hp; exact r5 0 _ (by omega) rfl
  | 6, hp => cases hp; exact r5 1 _ (by omega) rfl
  | 7, hp => cases hp; exact r5 2 _ (by omega) rfl
theorem oLD : Opens Tryz.prog 52 (fun l : List Dot => [lD l]) (fun l => ∀ x ∈ l, WfD x) := opens_slice Tryz.underlying52 cD (by omega) oD fun _ => rfl
end Go.E2.S
