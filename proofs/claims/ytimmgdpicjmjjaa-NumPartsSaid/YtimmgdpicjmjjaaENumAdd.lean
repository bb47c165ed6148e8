import Derived.Test.YtimmgdpicjmjjaaENum0
namespace Go.Eng.Num
open Go Go.Eng Go.RowKit Go.Proofs
set_option linter.unusedVariables false
set_option linter.unusedSimpArgs false
set_option maxHeartbeats 1000000
set_option maxRecDepth 10000
theorem add_run (a b s : Int) (hs : IntKind.i64.wrap (a + b) = s) :
    Spec Try.prog 9 [.at (.int .i64 a), .at (.int .i64 b)] (two (if (0 < a ∧ 0 < b ∧ s < 0) ∨ (a < 0 ∧ b < 0 ∧ 0 ≤ s) then (0, 5) else (s, 0))) := by
  by_cases h1 : 0 < a <;> by_cases h2 : a < 0 <;> by_cases h3 : 0 < b <;> by_cases h4 : b < 0 <;> by_cases h5 : s < 0
  all_goals first | (exfalso; omega) | skip
  all_goals have h6 : ¬ (0 ≤ s) ↔ s < 0 := by omega
  all_goals
    apply spec_of hE Try.func9 rfl rfl (by simp) (e := .ret) (own := none) (key := 0) (ess := []) (us := [])
    case he => exact .inr rfl
    case hrun =>
      simp only [Try.f9]
      apply ARun.seq
      · apply ARun.region; repeat (first | exact .nil | apply RO.cons none (by simp ; (try simp (disch := omega) only [w64]); exact ⟨rfl, rfl⟩) (by simp) (by simp; rfl))
      apply ARun.seq
      · apply ARun.region; repeat (first | exact .nil | apply RO.cons none (by simp [hs]; (try simp (disch := omega) only [w64]); exact ⟨rfl, rfl⟩) (by simp) (by simp; rfl))
      first
        | apply ARun.seq
          · apply ARun.seq
            · apply ARun.region; repeat (first | exact .nil | apply RO.cons none (by simp [h1, h2, h3, h4, h5]; (try simp (disch := omega) only [w64]); exact ⟨rfl, rfl⟩) (by simp) (by simp; rfl))
            · apply ARun.cond false (by first | (simp; done) | (simp; omega))
              exact .skip
          · apply ARun.seq
            · apply ARun.region; repeat (first | exact .nil | apply RO.cons none (by simp ; (try simp (disch := omega) only [w64]); exact ⟨rfl, rfl⟩) (by simp) (by simp; rfl))
            · exact .ret
        | apply ARun.seqx
          · apply ARun.seq
            · apply ARun.region; repeat (first | exact .nil | apply RO.cons none (by simp [h1, h2, h3, h4, h5]; (try simp (disch := omega) only [w64]); exact ⟨rfl, rfl⟩) (by simp) (by simp; rfl))
            · apply ARun.cond true (by first | (simp; done) | (simp; omega))
              apply ARun.seq
              · apply ARun.region; repeat (first | exact .nil | apply RO.cons none (by simp ; (try simp (disch := omega) only [w64]); exact ⟨rfl, rfl⟩) (by simp) (by simp; rfl))
              · exact .ret
          · simp
    case hres =>
      first
        | (simp [resFin, resRun, resVal, RM.bind, ret1, retAt, atPV, resRT, h1, h2, h3, h4, h5]; done)
        | (have h7 : 0 ≤ s := by omega
           simp [resFin, resRun, resVal, RM.bind, ret1, retAt, atPV, resRT, h1, h2, h3, h4, h5, h7]; done)
        | (have h7 : ¬ 0 ≤ s := by omega
           simp [resFin, resRun, resVal, RM.bind, ret1, retAt, atPV, resRT, h1, h2, h3, h4, h5, h7]; done)
theorem add_spec (a b : Int) (ha : I64 a) (hb : I64 b) : Spec Try.prog 9 [.at (.int .i64 a), .at (.int .i64 b)] (two (tot (a + b))) := by
  have h := add_run a b _ rfl
  unfold I64 at ha hb
  have e : IntKind.i64.wrap (a + b) = if a + b < -9223372036854775808 then a + b + 18446744073709551616 else if 9223372036854775807 < a + b then a + b - 18446744073709551616 else a + b := by
    rw [IntKind.wrap_i64]; split <;> (try split) <;> omega
  have e2 : (if (0 < a ∧ 0 < b ∧ IntKind.i64.wrap (a + b) < 0) ∨ (a < 0 ∧ b < 0 ∧ 0 ≤ IntKind.i64.wrap (a + b)) then ((0 : Int), (5 : Int)) else (IntKind.i64.wrap (a + b), 0)) = tot (a + b) := by
    rw [e]
    unfold tot
    split <;> split <;> first | rfl | omega | (split <;> (try split) <;> first | rfl | omega)
  rw [e2] at h
  exact h
end Go.Eng.Num
