/- What is left of items: without dots, under a zone, of a key: the program's. -/
import Derived.Test.YtiliffhopdiepaaVI6
namespace Go.E2.S
open Go Go.E2 Go.RowKit Go.Proofs
set_option linter.unusedVariables false
set_option linter.unusedSimpArgs false
set_option maxHeartbeats 1000000
set_option maxRecDepth 10000
theorem cloneI (l : List Item) (hl : l.length < 1000000000) : A.fn 37 [pv (lI l)] [] = some (.one (.at (.row pinN 0)), [some (rI l)]) :=
  (lib_run hL L37 [pv (lI l)] []).trans (clone_at A.fn (xs := l.map encI) (by simp [appLim]; omega))
theorem of1 (x : Item) (key : ByteArray) : A.fn 58 [ag (encI x), pv (.ref [.str key])] [] = some (.one (bv (!decide (x.f0 = key))), []) := by
  rw [fn_run hL Try.func58 rfl L58 (by rfl) rfl rfl rfl (by decide)]
  simp [Try.f58]
theorem itemOf (l : List Item) (key : ByteArray) (hl : l.length < 1000000000) : A.fn 41 [pv (lI l), sv key] [] = some (.one (.at (.row pinN 0)), [some (rI (l.filter fun x => decide (x.f0 = key)))]) := by
  have h1 := cloneI l hl
  have h2 := delI l 58 [.ref [.str key]] (fun x => !decide (x.f0 = key)) (by simp) hl (fun x _ => of1 x key)
  rw [fn_run hL Try.func41 rfl L41 (by rfl) rfl rfl rfl (by decide)]
  simp only [Bool.not_not] at h2
  cases c : l.any fun x => !decide (x.f0 = key) <;> (rw [c] at h2; simp only [delR] at h2; simp [rI] at h1 h2; simp [Try.f41, h1, h2])
theorem under1 (x : Item) (z : List ByteArray) (hz : z.length < 1000000000) : A.fn 66 [ag (encI x), pv (.ref [lS z])] [] = some (.one (bv (!coversL z x.f0)), []) := by
  have h := covers z x.f0 hz
  rw [fn_run hL Try.func66 rfl L66 (by rfl) rfl rfl rfl (by decide)]
  simp [Try.f66, h]
theorem itemUnder (l : List Item) (z : List ByteArray) (hl : l.length < 1000000000) (hz : z.length < 1000000000) : A.fn 49 [pv (lI l), pv (lS z)] [] = some (.one (.at (.row pinN 0)), [some (rI (l.filter fun x => coversL z x.f0))]) := by
  have h1 := cloneI l hl
  have h2 := delI l 66 [.ref [lS z]] (fun x => !coversL z x.f0) (by simp) hl (fun x _ => under1 x z hz)
  rw [fn_run hL Try.func49 rfl L49 (by rfl) rfl rfl rfl (by decide)]
  simp only [Bool.not_not] at h2
  cases c : l.any fun x => !coversL z x.f0 <;> (rw [c] at h2; simp only [delR] at h2; simp [rI] at h1 h2; simp [Try.f49, h1, h2])
end Go.E2.S
