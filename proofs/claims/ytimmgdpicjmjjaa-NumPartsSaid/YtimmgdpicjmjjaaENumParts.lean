import Derived.Test.YtimmgdpicjmjjaaENumLaw
import Derived.Test.YtimmgdpicjmjjaaEOps13
namespace Go.Eng.Num
open Go Go.Eng Go.RowKit Go.Proofs
set_option linter.unusedVariables false
set_option linter.unusedSimpArgs false
set_option maxHeartbeats 2000000
set_option maxRecDepth 10000
attribute [simp] absY
theorem cut (l0 : List Int) : ∃ l, l = l0.take 200 ∧ (if (200 : Int) < (l0.length : Int) then (200 : Int) else (l0.length : Int)) = (l.length : Int) ∧ List.take l.length (l0.map encZ) = l.map encZ ∧ l.length ≤ l0.length ∧ l.length ≤ 200 ∧ ∀ x ∈ l, x ∈ l0 := by
  refine ⟨_, rfl, ?_, ?_, ?_, ?_, fun x hx => List.mem_of_mem_take hx⟩
  · rw [List.length_take]; split <;> omega
  · rw [← List.map_take, List.length_take, List.take_eq_take_min (i := 200)]
  · rw [List.length_take]; omega
  · rw [List.length_take]; omega
theorem tot_i64 (s : Int) : I64 (tot s).1 := by
  unfold tot I64; split <;> (constructor <;> dsimp only <;> omega)
theorem parts_spec (p0 q0 : List Int) (hp0 : ∀ x ∈ p0, I64 x) (hq0 : ∀ x ∈ q0, I64 x) : Spec Try.prog 6 [.at (zs p0), .at (zs q0)] (.one (.at (.pv (.bool true)))) := by
  obtain ⟨p, _, hp1, hp2, hp3, hp4, hp5⟩ := cut p0
  obtain ⟨q, _, hq1, hq2, hq3, hq4, hq5⟩ := cut q0
  have hpt := total_spec p (by omega) fun x hx => hp0 x (hp5 x hx)
  have hqt := total_spec q (by omega) fun x hx => hq0 x (hq5 x hx)
  have hrt : Spec Try.prog 11 [.at (.list 1 (p.map encZ ++ q.map encZ))] (two (tot (p.sum + q.sum))) := by
    have h := total_spec (p ++ q) (by simp; omega) fun x hx => by
      rcases List.mem_append.1 hx with h | h
      · exact hp0 x (hp5 x h)
      · exact hq0 x (hq5 x h)
    rw [List.sum_append] at h
    simpa [zs] using h
  have hat := add_spec (tot p.sum).1 (tot q.sum).1 (tot_i64 _) (tot_i64 _)
  have hap1 : p.length * 9 ≤ 70368744177664 := by omega
  have hap2 : (p.length + q.length) * 9 ≤ 70368744177664 := by omega
  have hsum : (tot p.sum).2 = 0 → (tot q.sum).2 = 0 → tot ((tot p.sum).1 + (tot q.sum).1) = tot (p.sum + q.sum) := fun h1 h2 => by
    unfold tot at h1 h2
    split at h1
    case isFalse => simp at h1
    case isTrue c1 =>
      split at h2
      case isFalse => simp at h2
      case isTrue c2 =>
        rw [show tot p.sum = (p.sum, 0) from if_pos c1, show tot q.sum = (q.sum, 0) from if_pos c2]
  generalize hP : tot p.sum = P at *
  generalize hQ : tot q.sum = Q at *
  generalize hR : tot (p.sum + q.sum) = R at *
  generalize hS : tot (P.1 + Q.1) = S at *
  by_cases hn1 : P.2 = 0 <;> by_cases hn2 : Q.2 = 0
  all_goals
    apply spec_of hE Try.func6 rfl rfl (by simp) (e := .ret) (own := none) (key := 0) (ess := []) (us := [])
    case he => exact .inr rfl
    case hrun =>
      simp only [Try.f6]
      apply ARun.seq
      · apply ARun.region; repeat (first | exact .nil | apply RO.cons none (by simp ; (try simp (disch := omega) only [w64]); exact ⟨rfl, rfl⟩) (by simp) (by simp; rfl))
      apply ARun.seq
      · apply ARun.seq
        · apply ARun.region
          apply RO.cons (some (.one (.at (.pv (.bool true))))) (by simp [fn8]; exact ⟨rfl, rfl⟩) (by intro d hd; cases hd; exact awake_spec) (by simp; rfl)
          repeat (first | exact .nil | apply RO.cons none (by simp ; (try simp (disch := omega) only [w64]); exact ⟨rfl, rfl⟩) (by simp) (by simp; rfl))
        · apply ARun.cond false (by first | (simp [hn1, hn2]; done) | (simp [hn1, hn2]; omega))
          exact .skip
      apply ARun.seq
      · apply ARun.drawn
        intro w0 S0 G0
        apply snd_drawn hE (by kernel_rfl)
        apply RY.take 0 rfl (by kernel_rfl) (by kernel_rfl) (by simp [ty29, ty2, hp1, hp2, hp3, hq1, hq2, hq3]; rfl) (by simp; rfl)
        apply RY.take 1 rfl (by kernel_rfl) (by kernel_rfl) (by simp [ty29, ty2, hp1, hp2, hp3, hq1, hq2, hq3]; rfl) (by simp; rfl)
        apply RY.take 2 rfl (by kernel_rfl) (by kernel_rfl) (by simp [ty29, ty2, hp1, hp2, hp3, hq1, hq2, hq3]; rfl) (by simp; rfl)
        apply RY.take 3 rfl (by kernel_rfl) (by kernel_rfl) (by simp [ty29, ty2, hp1, hp2, hp3, hq1, hq2, hq3]; rfl) (by simp; rfl)
        apply RY.take 4 rfl (by kernel_rfl) (by kernel_rfl) (by simp [ty29, ty2, hp1, hp2, hp3, hq1, hq2, hq3]; rfl) (by simp; rfl)
        apply RY.take 5 rfl (by kernel_rfl) (by kernel_rfl) (by simp [ty29, ty2, hp1, hp2, hp3, hq1, hq2, hq3]; rfl) (by simp; rfl)
        apply RY.take 6 rfl (by kernel_rfl) (by kernel_rfl) (by simp [ty29, ty2, hp1, hp2, hp3, hq1, hq2, hq3]; rfl) (by simp; rfl)
        apply RY.take 7 rfl (by kernel_rfl) (by kernel_rfl) (by simp [ty29, ty2, hp1, hp2, hp3, hq1, hq2, hq3]; rfl) (by simp; rfl)
        apply RY.take 8 rfl (by kernel_rfl) (by kernel_rfl) (by simp [ty29, ty2, hp1, hp2, hp3, hq1, hq2, hq3]; rfl) (by simp; rfl)
        apply RY.take 9 rfl (by kernel_rfl) (by kernel_rfl) (by simp [ty29, ty2, hp1, hp2, hp3, hq1, hq2, hq3]; rfl) (by simp; rfl)
        apply RY.take 10 rfl (by kernel_rfl) (by kernel_rfl) (by simp [ty29, ty2, hp1, hp2, hp3, hq1, hq2, hq3]; rfl) (by simp; rfl)
        apply RY.take 11 rfl (by kernel_rfl) (by kernel_rfl) (by simp [ty29, ty2, hp1, hp2, hp3, hq1, hq2, hq3]; rfl) (by simp; rfl)
        exact .done (by kernel_rfl)
      apply ARun.seq
      · apply ARun.region
        apply RO.cons none (by simp [ty29]; (try simp (disch := omega) only [w64]); exact ⟨rfl, rfl⟩) (by simp) (by simp; rfl)
        apply RO.cons (some (two P)) (by simp [ty29, fn11]; exact ⟨rfl, rfl⟩) (by intro d hd; cases hd; exact hpt) (by simp; rfl)
        repeat (first | exact .nil | apply RO.cons none (by simp ; (try simp (disch := omega) only [w64]); exact ⟨rfl, rfl⟩) (by simp) (by simp; rfl))
      apply ARun.seq
      · apply ARun.region
        apply RO.cons none (by simp [ty29]; (try simp (disch := omega) only [w64]); exact ⟨rfl, rfl⟩) (by simp) (by simp; rfl)
        apply RO.cons (some (two Q)) (by simp [ty29, fn11]; exact ⟨rfl, rfl⟩) (by intro d hd; cases hd; exact hqt) (by simp; rfl)
        repeat (first | exact .nil | apply RO.cons none (by simp ; (try simp (disch := omega) only [w64]); exact ⟨rfl, rfl⟩) (by simp) (by simp; rfl))
      apply ARun.seq
      · apply ARun.region
        repeat (first | exact .nil | apply RO.cons none (by simp [ty29, ty2, hap1, hap2]; (try simp (disch := omega) only [w64]); exact ⟨rfl, rfl⟩) (by simp) (by simp; rfl))
        apply RO.cons (some (two R)) (by simp [ty29, fn11]; exact ⟨rfl, rfl⟩) (by intro d hd; cases hd; exact hrt) (by simp; rfl)
        repeat (first | exact .nil | apply RO.cons none (by simp ; (try simp (disch := omega) only [w64]); exact ⟨rfl, rfl⟩) (by simp) (by simp; rfl))
      first
        | apply ARun.seqx
          · apply ARun.seq
            · apply ARun.region; repeat (first | exact .nil | apply RO.cons none (by simp [ty23, hn1, hn2]; (try simp (disch := omega) only [w64]); exact ⟨rfl, rfl⟩) (by simp) (by simp; rfl))
            · apply ARun.cond true (by first | (simp [hn1, hn2]; done) | (simp [hn1, hn2]; omega))
              apply ARun.seq
              · apply ARun.region; repeat (first | exact .nil | apply RO.cons none (by simp ; (try simp (disch := omega) only [w64]); exact ⟨rfl, rfl⟩) (by simp) (by simp; rfl))
              · exact .ret
          · simp
        | have hSR := hsum hn1 hn2
          apply ARun.seq
          · apply ARun.seq
            · apply ARun.region; repeat (first | exact .nil | apply RO.cons none (by simp [ty23, hn1, hn2]; (try simp (disch := omega) only [w64]); exact ⟨rfl, rfl⟩) (by simp) (by simp; rfl))
            · apply ARun.cond false (by first | (simp [hn1, hn2]; done) | (simp [hn1, hn2]; omega))
              exact .skip
          apply ARun.seq
          · apply ARun.region
            apply RO.cons none (by simp [ty2]; (try simp (disch := omega) only [w64]); exact ⟨rfl, rfl⟩) (by simp) (by simp; rfl)
            apply RO.cons none (by simp [ty2]; (try simp (disch := omega) only [w64]); exact ⟨rfl, rfl⟩) (by simp) (by simp; rfl)
            apply RO.cons (some (two S)) (by simp [ty2, fn9]; exact ⟨rfl, rfl⟩) (by intro d hd; cases hd; exact hat) (by simp; rfl)
            repeat (first | exact .nil | apply RO.cons none (by simp ; (try simp (disch := omega) only [w64]); exact ⟨rfl, rfl⟩) (by simp) (by simp; rfl))
          apply ARun.seq
          · apply ARun.region; repeat (first | exact .nil | apply RO.cons none (by simp [ty2, ty23, hSR]; (try simp (disch := omega) only [w64]); exact ⟨rfl, rfl⟩) (by simp) (by simp; rfl))
          · exact .ret
    case hres =>
      simp [resFin, resRun, resVal, RM.bind, ret1, retAt, atPV, resRT]
end Go.Eng.Num
