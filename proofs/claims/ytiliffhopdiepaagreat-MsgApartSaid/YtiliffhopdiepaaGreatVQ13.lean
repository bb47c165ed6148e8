/- The document's messages: Same, Is. -/
import Derived.Test.YtiliffhopdiepaaGreatVQb
import Derived.Test.YtiliffhopdiepaaGreatVL1
import Derived.Test.YtiliffhopdiepaaGreatVFa
namespace Go.E2.S
open Go Go.E2 Go.RowKit Go.Proofs
set_option linter.unusedVariables false
set_option linter.unusedSimpArgs false
set_option maxHeartbeats 8000000
set_option maxRecDepth 10000
theorem msg_ext (a b : Msg) : decide (a = b) = (decide (a.f0 = b.f0) && (decide (a.f1 = b.f1) && (decide (a.f2 = b.f2) && (decide (a.f3 = b.f3) && (decide (a.f4 = b.f4) && (decide (a.f5 = b.f5) && (decide (a.f6 = b.f6) && (decide (a.f7 = b.f7) && decide (a.f8 = b.f8))))))))) := by
  obtain ⟨x0, x1, x2, x3, x4, x5, x6, x7, x8⟩ := a
  obtain ⟨y0, y1, y2, y3, y4, y5, y6, y7, y8⟩ := b
  rw [Bool.eq_iff_iff]
  simp
theorem rmsgSame (a b : Msg) (ha : FitM a) : A.fn 22 [ag (encM a), ag (encM b)] [] = some (.one (bv (decide (a = b))), []) := by
  have q3 := requalZ a.f3 b.f3 (by have := ha.h3; omega)
  have q4 := requalZ a.f4 b.f4 (by have := ha.h4; omega)
  have q5 := same08 a.f5 b.f5 (by have := ha.h5; omega)
  have q6 := same08 a.f6 b.f6 (by have := ha.h6; omega)
  have q7 := same09 a.f7 b.f7 (by have := ha.h7; omega)
  have q8 := rtxnsSame a.f8 b.f8 (by have := ha.h8; omega) fun t ht => by
    obtain ⟨h1, h2, h3, h4⟩ := ha.ht t ht
    exact ⟨h2, h3, fun e he => by have := h4 e he; omega⟩
  rw [msg_ext]
  clear ha
  obtain ⟨x0, x1, x2, x3, x4, x5, x6, x7, x8⟩ := a
  obtain ⟨y0, y1, y2, y3, y4, y5, y6, y7, y8⟩ := b
  simp only at *
  generalize decide (x3 = y3) = b3 at *
  generalize decide (x4 = y4) = b4 at *
  generalize decide (x5 = y5) = b5 at *
  generalize decide (x6 = y6) = b6 at *
  generalize decide (x7 = y7) = b7 at *
  generalize decide (x8 = y8) = b8 at *
  rw [fn_run hL Tryz.func22 rfl L22 (by rfl) rfl rfl rfl (by decide)]
  by_cases c0 : x0 = y0
  case neg => (simp [Tryz.f22, c0]; try (rw [if_pos ?q]; (case q => kernel_rfl); simp [Tryz.f22, c0]))
  have c0' := eq_true c0
  by_cases c1 : x1 = y1
  case neg => (simp [Tryz.f22, c0', c1]; try (rw [if_pos ?q]; (case q => kernel_rfl); simp [Tryz.f22, c0', c1]))
  have c1' := eq_true c1
  by_cases c2 : x2 = y2
  case neg => (simp [Tryz.f22, c0', c1', c2]; try (rw [if_pos ?q]; (case q => kernel_rfl); simp [Tryz.f22, c0', c1', c2]))
  have c2' := eq_true c2
  cases b3
  case false => (simp [Tryz.f22, c0', c1', c2', q3]; try (rw [if_pos ?q]; (case q => kernel_rfl); simp [Tryz.f22, c0', c1', c2', q3]))
  cases b4
  case false => (simp [Tryz.f22, c0', c1', c2', q3, q4]; try (rw [if_pos ?q]; (case q => kernel_rfl); simp [Tryz.f22, c0', c1', c2', q3, q4]))
  cases b5
  case false => (simp [Tryz.f22, c0', c1', c2', q3, q4, q5]; try (rw [if_pos ?q]; (case q => kernel_rfl); simp [Tryz.f22, c0', c1', c2', q3, q4, q5]))
  cases b6
  case false => (simp [Tryz.f22, c0', c1', c2', q3, q4, q5, q6]; try (rw [if_pos ?q]; (case q => kernel_rfl); simp [Tryz.f22, c0', c1', c2', q3, q4, q5, q6]))
  cases b7
  case false => (simp [Tryz.f22, c0', c1', c2', q3, q4, q5, q6, q7]; try (rw [if_pos ?q]; (case q => kernel_rfl); simp [Tryz.f22, c0', c1', c2', q3, q4, q5, q6, q7]))
  cases b8
  case false => (simp [Tryz.f22, c0', c1', c2', q3, q4, q5, q6, q7, q8]; try (rw [if_pos ?q]; (case q => kernel_rfl); simp [Tryz.f22, c0', c1', c2', q3, q4, q5, q6, q7, q8]))
  (simp [Tryz.f22, c0', c1', c2', q3, q4, q5, q6, q7, q8]; try (rw [if_pos ?q]; (case q => kernel_rfl); simp [Tryz.f22, c0', c1', c2', q3, q4, q5, q6, q7, q8]))
end Go.E2.S
