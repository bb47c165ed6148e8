/- The program's types, opened: vectors, effects, transactions, messages, bytes (printed by opens.py). -/
import Derived.Test.YtiliffhopdiepaaGreatVOpenA
import Derived.Test.YtiliffhopdiepaaGreatVT3
import Derived.Test.YtiliffhopdiepaaGreatVBa
namespace Go.E2.S
open Go Go.E2 Go.RowKit Go.Proofs
set_option linter.unusedVariables false
set_option linter.unusedSimpArgs false

theorem oVe : Opens Tryz.prog 23 (fun l : List Int => [lZ l]) (fun l => ∀ x ∈ l, I64 x) := opens_slice Tryz.underlying23 cZ (by omega) oZ fun _ => rfl
theorem oLSB : Opens Tryz.prog 24 (fun l : List ByteArray => [lS l]) (fun l => ∀ x ∈ l, SzS x) := opens_slice Tryz.underlying24 cS (by omega) oSB fun _ => rfl
theorem oLIB : Opens Tryz.prog 25 (fun l : List Item => [lI l]) (fun l => ∀ x ∈ l, WfJ x) := opens_slice Tryz.underlying25 cI (by omega) oIB fun _ => rfl
theorem cVe : Tryz.prog.cellsOf 23 = 1 := by kernel_rfl
theorem cLSB : Tryz.prog.cellsOf 24 = 1 := by kernel_rfl
theorem cLIB : Tryz.prog.cellsOf 25 = 1 := by kernel_rfl
theorem cLD : Tryz.prog.cellsOf 52 = 1 := by kernel_rfl
theorem lenEf {α : Type} : ∀ {l : List α}, l.length = 7 → ∃ a0 a1 a2 a3 a4 a5 a6, l = [a0, a1, a2, a3, a4, a5, a6]
  | [a0, a1, a2, a3, a4, a5, a6], _ => ⟨a0, a1, a2, a3, a4, a5, a6, rfl⟩
def WfEf (x : Eff) : Prop := (I64 x.f0) ∧ (SzS x.f1) ∧ (SzS x.f2) ∧ (I64 x.f3) ∧ (SzS x.f4) ∧ (I64 x.f5) ∧ (∀ y ∈ x.f6, WfD y)
instance : Inhabited Eff := ⟨⟨0, ByteArray.empty, ByteArray.empty, 0, ByteArray.empty, 0, []⟩⟩
theorem cEf : Tryz.prog.cellsOf 54 = 7 := by kernel_rfl
theorem oEf : Opens Tryz.prog 54 encE WfEf := fun {H he w base spare held n cs y} h => by
  obtain ⟨xs, m, _, _, hl, hx, hf⟩ := DataW.trod_struct Tryz.underlying54 h
  rw [cEf] at hl
  have hx : xs.length = 7 := hx
  obtain ⟨y0, y1, y2, y3, y4, y5, y6, rfl⟩ := lenEf hx
  obtain ⟨x0, q0, r0⟩ := oZ.at cZ 0 (hf 0 _ rfl)
  obtain ⟨x1, q1, r1⟩ := oSB.at cS 1 (hf 1 _ rfl)
  obtain ⟨x2, q2, r2⟩ := oSB.at cS 2 (hf 2 _ rfl)
  obtain ⟨x3, q3, r3⟩ := oZ.at cZ 3 (hf 3 _ rfl)
  obtain ⟨x4, q4, r4⟩ := oSB.at cS 4 (hf 4 _ rfl)
  obtain ⟨x5, q5, r5⟩ := oZ6.at cZ6 5 (hf 5 _ rfl)
  obtain ⟨x6, q6, r6⟩ := oLD.at cLD 6 (hf 6 _ rfl)
  refine ⟨⟨x0, x1, x2, x3, x4, x5, x6⟩, ⟨q0, q1, q2, q3, q4, q5, q6⟩, hl, fun i p hp => ?_⟩
  match i, hp with
  | 0, hp => cases hp; exact r0 0 _ (by omega) rfl
  | 1, hp => cases hp; exact r1 0 _ (by omega) rfl
  | 2, hp => cases hp; exact r2 0 _ (by omega) rfl
  | 3, hp => cases hp; exact r3 0 _ (by omega) rfl
  | 4, hp => cases hp; exact r4 0 _ (by omega) rfl
  | 5, hp => cases hp; exact r5 0 _ (by omega) rfl
  | 6, hp => cases hp; exact r6 0 _ (by omega) rfl
theorem oLEf : Opens Tryz.prog 49 (fun l : List Eff => [lE l]) (fun l => ∀ x ∈ l, WfEf x) := opens_slice Tryz.underlying49 cEf (by omega) oEf fun _ => rfl
theorem cLEf : Tryz.prog.cellsOf 49 = 1 := by kernel_rfl
theorem lenTq {α : Type} : ∀ {l : List α}, l.length = 4 → ∃ a0 a1 a2 a3, l = [a0, a1, a2, a3]
  | [a0, a1, a2, a3], _ => ⟨a0, a1, a2, a3, rfl⟩
def WfTq (x : Txn) : Prop := (I64 x.f0) ∧ (I64 x.f1) ∧ (∀ y ∈ x.f2, I64 y) ∧ (∀ y ∈ x.f3, WfEf y)
instance : Inhabited Txn := ⟨⟨0, 0, [], []⟩⟩
theorem cTq : Tryz.prog.cellsOf 51 = 4 := by kernel_rfl
theorem oTq : Opens Tryz.prog 51 encT WfTq := fun {H he w base spare held n cs y} h => by
  obtain ⟨xs, m, _, _, hl, hx, hf⟩ := DataW.trod_struct Tryz.underlying51 h
  rw [cTq] at hl
  have hx : xs.length = 4 := hx
  obtain ⟨y0, y1, y2, y3, rfl⟩ := lenTq hx
  obtain ⟨x0, q0, r0⟩ := oZ.at cZ 0 (hf 0 _ rfl)
  obtain ⟨x1, q1, r1⟩ := oZ.at cZ 1 (hf 1 _ rfl)
  obtain ⟨x2, q2, r2⟩ := oVe.at cVe 2 (hf 2 _ rfl)
  obtain ⟨x3, q3, r3⟩ := oLEf.at cLEf 3 (hf 3 _ rfl)
  refine ⟨⟨x0, x1, x2, x3⟩, ⟨q0, q1, q2, q3⟩, hl, fun i p hp => ?_⟩
  match i, hp with
  | 0, hp => cases hp; exact r0 0 _ (by omega) rfl
  | 1, hp => cases hp; exact r1 0 _ (by omega) rfl
  | 2, hp => cases hp; exact r2 0 _ (by omega) rfl
  | 3, hp => cases hp; exact r3 0 _ (by omega) rfl
theorem oLTq : Opens Tryz.prog 26 (fun l : List Txn => [lT l]) (fun l => ∀ x ∈ l, WfTq x) := opens_slice Tryz.underlying26 cTq (by omega) oTq fun _ => rfl
theorem cLTq : Tryz.prog.cellsOf 26 = 1 := by kernel_rfl
theorem lenMg {α : Type} : ∀ {l : List α}, l.length = 9 → ∃ a0 a1 a2 a3 a4 a5 a6 a7 a8, l = [a0, a1, a2, a3, a4, a5, a6, a7, a8]
  | [a0, a1, a2, a3, a4, a5, a6, a7, a8], _ => ⟨a0, a1, a2, a3, a4, a5, a6, a7, a8, rfl⟩
def WfMg (x : Msg) : Prop := (I64 x.f0) ∧ (I64 x.f1) ∧ (∀ y ∈ x.f3, I64 y) ∧ (∀ y ∈ x.f4, I64 y) ∧ (∀ y ∈ x.f5, SzS y) ∧ (∀ y ∈ x.f6, SzS y) ∧ (∀ y ∈ x.f7, WfJ y) ∧ (∀ y ∈ x.f8, WfTq y)
theorem cMg : Tryz.prog.cellsOf 28 = 9 := by kernel_rfl
theorem oMg : Opens Tryz.prog 28 encM WfMg := fun {H he w base spare held n cs y} h => by
  obtain ⟨xs, m, _, _, hl, hx, hf⟩ := DataW.trod_struct Tryz.underlying28 h
  rw [cMg] at hl
  have hx : xs.length = 9 := hx
  obtain ⟨y0, y1, y2, y3, y4, y5, y6, y7, y8, rfl⟩ := lenMg hx
  obtain ⟨x0, q0, r0⟩ := oZ.at cZ 0 (hf 0 _ rfl)
  obtain ⟨x1, q1, r1⟩ := oZ.at cZ 1 (hf 1 _ rfl)
  obtain ⟨x2, q2, r2⟩ := oBl.at cB 2 (hf 2 _ rfl)
  obtain ⟨x3, q3, r3⟩ := oVe.at cVe 3 (hf 3 _ rfl)
  obtain ⟨x4, q4, r4⟩ := oVe.at cVe 4 (hf 4 _ rfl)
  obtain ⟨x5, q5, r5⟩ := oLSB.at cLSB 5 (hf 5 _ rfl)
  obtain ⟨x6, q6, r6⟩ := oLSB.at cLSB 6 (hf 6 _ rfl)
  obtain ⟨x7, q7, r7⟩ := oLIB.at cLIB 7 (hf 7 _ rfl)
  obtain ⟨x8, q8, r8⟩ := oLTq.at cLTq 8 (hf 8 _ rfl)
  refine ⟨⟨x0, x1, x2, x3, x4, x5, x6, x7, x8⟩, ⟨q0, q1, q3, q4, q5, q6, q7, q8⟩, hl, fun i p hp => ?_⟩
  match i, hp with
  | 0, hp => cases hp; exact r0 0 _ (by omega) rfl
  | 1, hp => cases hp; exact r1 0 _ (by omega) rfl
  | 2, hp => cases hp; exact r2 0 _ (by omega) rfl
  | 3, hp => cases hp; exact r3 0 _ (by omega) rfl
  | 4, hp => cases hp; exact r4 0 _ (by omega) rfl
  | 5, hp => cases hp; exact r5 0 _ (by omega) rfl
  | 6, hp => cases hp; exact r6 0 _ (by omega) rfl
  | 7, hp => cases hp; exact r7 0 _ (by omega) rfl
  | 8, hp => cases hp; exact r8 0 _ (by omega) rfl
theorem opens_u8 {P : Program} {t : TypeId} (ht : P.underlying t = some (.int .u8)) : Opens P t encU (fun _ => True) := fun h => by
  obtain ⟨s, rfl, _, hw⟩ := DataW.trod_int ht h
  simp [Lit.wf, IntKind.min, IntKind.max, IntKind.bits, IntKind.signed] at hw
  have e : ((UInt8.ofNat s.toNat).toNat : Int) = s := by rw [ofNat_toNat (by omega)]; omega
  refine ⟨UInt8.ofNat s.toNat, trivial, rfl, ?_⟩
  rw [encU, e]
  exact one_rep (.int _ s)
instance : Inhabited UInt8 := ⟨0⟩
theorem oU8 : Opens Tryz.prog 5 encU (fun _ => True) := opens_u8 Tryz.underlying5
theorem cU8 : Tryz.prog.cellsOf 5 = 1 := by kernel_rfl
theorem oLU : Opens Tryz.prog 31 (fun l : List UInt8 => [lU l]) (fun l => ∀ x ∈ l, True) := opens_slice Tryz.underlying31 cU8 (by omega) oU8 fun _ => rfl
end Go.E2.S
