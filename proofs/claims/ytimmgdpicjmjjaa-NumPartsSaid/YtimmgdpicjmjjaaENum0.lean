import Derived.Test.YtimmgdpicjmjjaaProg
import Derived.Test.YtimmgdpicjmjjaaEEval
import Derived.KernelRfl
import Derived.Laws.BitsLemmas
namespace Go.Eng.Num
open Go Go.Eng Go.RowKit Go.Proofs
set_option linter.unusedVariables false
set_option linter.unusedSimpArgs false
theorem ty2 : tyOf Try.prog 2 = some { agg := false, size := 1, bytes := 8, elem := 0, fields := [], zero := [.pv (.int .i64 0)], es := [0], str := false, bool := false, int := some .i64 } := by kernel_rfl
theorem ty3 : tyOf Try.prog 3 = some { agg := false, size := 1, bytes := 8, elem := 0, fields := [], zero := [.pv (.int .i64 0)], es := [0], str := false, bool := false, int := some .i64 } := by kernel_rfl
theorem ty23 : tyOf Try.prog 23 = some { agg := false, size := 1, bytes := 8, elem := 0, fields := [], zero := [.pv (.int .i64 0)], es := [0], str := false, bool := false, int := some .i64 } := by kernel_rfl
theorem ty33 : tyOf Try.prog 33 = some { agg := false, size := 1, bytes := 8, elem := 0, fields := [], zero := [.pv (.int .u64 0)], es := [0], str := false, bool := false, int := some .u64 } := by kernel_rfl
theorem ty29 : tyOf Try.prog 29 = some { agg := false, size := 1, bytes := 24, elem := 2, fields := [], zero := [.nil], es := [1], str := false, bool := false, int := none } := by kernel_rfl
theorem hE : EnvOk Try.prog (envOf Try.prog) := envOf_ok (P := Try.prog) (by kernel_rfl)
/-- A number of int64. -/
def I64 (x : Int) : Prop := -9223372036854775808 ≤ x ∧ x ≤ 9223372036854775807
/-- What the total of a list is: its sum, or too great. -/
def tot (s : Int) : Int × Int := if -9223372036854775808 ≤ s ∧ s ≤ 9223372036854775807 then (s, 0) else (0, 5)
theorem wr (x : Int) (h0 : -9223372036854775808 ≤ x) (h1 : x ≤ 9223372036854775807) : IntKind.i64.wrap x = x := by rw [IntKind.wrap_i64]; omega
abbrev two (x : Int × Int) : RT := .tup [.at (.pv (.int .i64 x.1)), .at (.pv (.int .i64 x.2))]
end Go.Eng.Num
