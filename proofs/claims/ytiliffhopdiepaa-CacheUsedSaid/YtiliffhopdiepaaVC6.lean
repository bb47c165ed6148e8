/- A cache under a zone. -/
import Derived.Test.YtiliffhopdiepaaVC5
import Derived.Test.YtiliffhopdiepaaVC5b
namespace Go.E2.S
open Go Go.E2 Go.RowKit Go.Proofs
set_option linter.unusedVariables false
set_option linter.unusedSimpArgs false
set_option maxHeartbeats 4000000
set_option maxRecDepth 10000
theorem und1C (x : ByteArray) (z : List ByteArray) (hz : z.length < 1000000000) : A.fn 47 [sv x, pv (.ref [lS z])] [] = some (.one (bv (!coversL z x)), []) := by
  have h := covers z x hz
  rw [fn_run hL Try.func47 rfl L47 (by rfl) rfl rfl rfl (by decide)]
  simp [Try.f47, h]
theorem underC (c : Cac) (z : List ByteArray) (hz : z.length < 1000000000) (h0 : c.f0.length < 100000) (h1 : c.f1.length < 100000) (h2 : c.f2.length < 100000) : A.fn 34 [ag (encC c), pv (lS z)] [] = some (.one (ag (encC (underL c z))), []) := by
  have q1 := copiedC c (by omega) (by omega) (by omega)
  have q2 := itemUnder c.f0 z (by omega) hz
  have q3 := delS c.f1 47 [.ref [lS z]] (fun x => !coversL z x) (by simp) (by omega) fun x _ => und1C x z hz
  have q4 := delS c.f2 47 [.ref [lS z]] (fun x => !coversL z x) (by simp) (by omega) fun x _ => und1C x z hz
  simp only [Bool.not_not] at q3 q4
  unfold underL
  rw [show (fun x => coversL z x) = coversL z from rfl] at q3 q4
  generalize c.f0.filter (fun x => coversL z x.f0) = r0 at *
  generalize c.f1.filter (coversL z) = r1 at *
  generalize c.f2.filter (coversL z) = r2 at *
  generalize (c.f1.any fun x => !coversL z x) = d1 at *
  generalize (c.f2.any fun x => !coversL z x) = d2 at *
  simp [ag, encC, rI, rS] at q1 q2
  rw [fn_run hL Try.func34 rfl L34 (by rfl) rfl rfl rfl (by decide)]
  cases d1 <;> cases d2 <;> (simp [rS, delR] at q3 q4; simp [Try.f34, q1, q2, q3, q4]; rw [if_pos ?q]; (case q => kernel_rfl); simp [q3, q4])
end Go.E2.S
