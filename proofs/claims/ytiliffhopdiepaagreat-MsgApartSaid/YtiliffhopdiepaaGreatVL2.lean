/- Chapter 17: MsgBack, MsgApart. -/
import Derived.Test.YtiliffhopdiepaaGreatVQ13
namespace Go.E2.S
open Go Go.E2 Go.RowKit Go.Proofs
set_option linter.unusedVariables false
set_option linter.unusedSimpArgs false
set_option maxHeartbeats 8000000
set_option maxRecDepth 10000
theorem mb_len {m : Msg} (hf : formedM m = true) (hw : WfMi m) : (mb m).length < 100000000 := by
  rw [← msgB_ok (formedM_GM hf hw)]
  obtain ⟨s3, s4, s5, s6, s7, s8, s9, s10, s11⟩ := formedM_Sm hf
  unfold msgB headB
  have k1 := puts_len [m.f0, m.f1, wh m] []
  simp only [List.length_cons, List.length_nil] at k1
  generalize [m.f0, m.f1, wh m].foldl putL [] = b1 at *
  have k2 := wV_len b1 m.f3
  generalize wV b1 m.f3 = b2 at *
  have k3 := wV_len b2 m.f4
  generalize wV b2 m.f4 = b3 at *
  have k4 := wZ_len b3 m.f5
  generalize wZ b3 m.f5 = b4 at *
  have k5 := wZ_len b4 m.f6
  generalize wZ b4 m.f6 = b5 at *
  have k6 := putL_len b5 m.f7.length
  generalize putL b5 m.f7.length = b6 at *
  have k7 := items_len m.f7 b6 s9
  generalize m.f7.foldl itemB b6 = b7 at *
  have k8 := putL_len b7 m.f8.length
  generalize putL b7 m.f8.length = b8 at *
  have k9 := txns_len m.f8 b8 s10
  have k10 := Nat.mul_le_mul_left 13344 s8
  omega
theorem putM_yes {m : Msg} (hf : formedM m = true) : putM m = (mb m, 0) := by
  unfold putM
  rw [if_pos hf]
theorem putM_no {m : Msg} (hf : formedM m = false) : putM m = ([], 2) := by
  unfold putM
  rw [hf, if_neg (by simp)]
theorem msgBack (m : Msg) (hw : WfMi m) (h1 : ∀ t ∈ m.f8, t.f1 ≤ 9223372036854775807) : A.fn 4 [ag (encM m)] [] = some (.one (bv true), []) := by
  have q0 := awake17
  have q1 := shortMsg m
  cases hs : shortM m with
  | false =>
    rw [hs] at q1
    simp [ag, encM] at q1
    rw [fn_run hL Tryz.func4 rfl L4 (by rfl) rfl rfl rfl (by decide)]
    (simp [Tryz.f4, q0, q1]; try (rw [if_pos ?q]; (case q => kernel_rfl); simp [Tryz.f4, q0, q1]))
  | true =>
    have hfit := short_fit hs h1
    have q2 := msgPutC m hfit hw
    rw [hs] at q1
    cases hf : formedM m with
    | false =>
      rw [putM_no hf] at q2
      simp [ag, encM] at q1 q2
      rw [fn_run hL Tryz.func4 rfl L4 (by rfl) rfl rfl rfl (by decide)]
      (simp [Tryz.f4, q0, q1, q2]; try (rw [if_pos ?q]; (case q => kernel_rfl); simp [Tryz.f4, q0, q1, q2]))
    | true =>
      rw [putM_yes hf] at q2
      have q3 := msgRead (mb m) (by have := mb_len hf hw; omega)
      rw [readM_put m (formedM_GM hf hw) hf] at q3
      have q4 := rmsgSame m m hfit
      rw [decide_eq_true rfl] at q4
      generalize mb m = b at *
      simp [ag, encM] at q1 q2 q3 q4
      rw [fn_run hL Tryz.func4 rfl L4 (by rfl) rfl rfl rfl (by decide)]
      (simp [Tryz.f4, q0, q1, q2, q3, q4]; try (rw [if_pos ?q]; (case q => kernel_rfl); simp [Tryz.f4, q0, q1, q2, q3, q4]))
theorem msgApart (m n : Msg) (hm : WfMi m) (h1 : ∀ t ∈ m.f8, t.f1 ≤ 9223372036854775807) (hn : WfMi n) (h2 : ∀ t ∈ n.f8, t.f1 ≤ 9223372036854775807) : A.fn 6 [ag (encM m), ag (encM n)] [] = some (.one (bv true), []) := by
  have q0 := awake17
  have q1 := shortMsg m
  have q2 := shortMsg n
  cases hs : shortM m with
  | false =>
    rw [hs] at q1
    simp [ag, encM] at q1
    rw [fn_run hL Tryz.func6 rfl L6 (by rfl) rfl rfl rfl (by decide)]
    (simp [Tryz.f6, q0, q1]; try (rw [if_pos ?q]; (case q => kernel_rfl); simp [Tryz.f6, q0, q1]))
  | true =>
    rw [hs] at q1
    cases hs2 : shortM n with
    | false =>
      rw [hs2] at q2
      simp [ag, encM] at q1 q2
      rw [fn_run hL Tryz.func6 rfl L6 (by rfl) rfl rfl rfl (by decide)]
      (simp [Tryz.f6, q0, q1, q2]; try (rw [if_pos ?q]; (case q => kernel_rfl); simp [Tryz.f6, q0, q1, q2]))
    | true =>
      rw [hs2] at q2
      have fm := short_fit hs h1
      have fn := short_fit hs2 h2
      have q3 := msgPutC m fm hm
      have q4 := msgPutC n fn hn
      cases hf : formedM m with
      | false =>
        rw [putM_no hf] at q3
        simp [ag, encM] at q1 q2 q3 q4
        rw [fn_run hL Tryz.func6 rfl L6 (by rfl) rfl rfl rfl (by decide)]
        (simp [Tryz.f6, q0, q1, q2, q3, q4]; try (rw [if_pos ?q]; (case q => kernel_rfl); simp [Tryz.f6, q0, q1, q2, q3, q4]))
      | true =>
        rw [putM_yes hf] at q3
        cases hf2 : formedM n with
        | false =>
          rw [putM_no hf2] at q4
          simp [ag, encM] at q1 q2 q3 q4
          rw [fn_run hL Tryz.func6 rfl L6 (by rfl) rfl rfl rfl (by decide)]
          (simp [Tryz.f6, q0, q1, q2, q3, q4]; try (rw [if_pos ?q]; (case q => kernel_rfl); simp [Tryz.f6, q0, q1, q2, q3, q4]))
        | true =>
          rw [putM_yes hf2] at q4
          have q5 := rsameU (mb m) (mb n) (by have := mb_len hf hm; omega)
          have q6 := rmsgSame m n fm
          have e : decide (mb m = mb n) = decide (m = n) := by
            by_cases c : m = n
            · rw [c]; simp
            · have : ¬ mb m = mb n := fun k => c (mb_inj (formedM_GM hf hm) (formedM_GM hf2 hn) k)
              simp [c, this]
          rw [e] at q5
          clear e
          generalize decide (m = n) = d at *
          generalize mb m = bm at *
          generalize mb n = bn at *
          simp [ag, encM] at q1 q2 q3 q4 q6
          rw [fn_run hL Tryz.func6 rfl L6 (by rfl) rfl rfl rfl (by decide)]
          cases d <;> (simp [Tryz.f6, q0, q1, q2, q3, q4, q5, q6]; try (rw [if_pos ?q]; (case q => kernel_rfl); simp [Tryz.f6, q0, q1, q2, q3, q4, q5, q6]))
end Go.E2.S
