/- Requests: which items one takes away. -/
import Derived.Test.YtjejhkhofmkefaaVM1
import Derived.Test.YtjejhkhofmkefaaVM2
namespace Go.E2.S
open Go Go.E2 Go.RowKit Go.Proofs
set_option linter.unusedVariables false
set_option linter.unusedSimpArgs false
set_option maxHeartbeats 2000000
set_option maxRecDepth 10000
structure Req where
  f0 : Int
  f1 : ByteArray
  f2 : ByteArray
  f3 : ByteArray
  f4 : Int
  deriving DecidableEq
abbrev encQ (q : Req) : List PV := [.int .i64 q.f0, .str q.f1, .str q.f2, .str q.f3, .int .i64 q.f4]
abbrev lQ (l : List Req) : PV := .list 5 (l.map encQ)
def dropsQ (q : Req) (x : Item) (node : Int) : Bool :=
  if q.f0 = 1 then decide (x.f2 = 1) && decide (x.f3 = q.f3)
  else if q.f0 = 2 then decide (x.f2 = 1) && decide (x.f3 = q.f3)
  else if q.f0 = 3 then decide (x.f2 = 2)
  else if q.f0 = 4 then decide (x.f2 = 3) && decide (x.f5.f0 = node)
  else true
theorem mintDrops (q : Req) (x : Item) (node : Int) : A.fn 116 [ag (encQ q), ag (encI x), iv node] [] = some (.one (bv (dropsQ q x node)), []) := by
  rw [fn_run hL Try.func116 rfl L116 (by rfl) rfl rfl rfl (by decide)]
  unfold dropsQ
  by_cases c1 : q.f0 = 1
  · by_cases d : x.f2 = 1
    · simp [Try.f116, c1, d]
    · simp [Try.f116, c1, d]
  · by_cases c2 : q.f0 = 2
    · by_cases d : x.f2 = 1
      · simp [Try.f116, c2, d]
      · simp [Try.f116, c2, d]
    · by_cases c3 : q.f0 = 3
      · simp [Try.f116, c3]
      · by_cases c4 : q.f0 = 4
        · by_cases d : x.f2 = 3
          · simp [Try.f116, c4, d]
          · simp [Try.f116, c4, d]
        · simp [Try.f116, c1, c2, c3, c4]
end Go.E2.S
