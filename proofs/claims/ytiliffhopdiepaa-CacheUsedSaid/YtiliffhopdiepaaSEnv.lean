/- What the engine knows of this seat's program: types, functions, what loops keep, the library (printed by env.py). -/
import Derived.Test.YtiliffhopdiepaaProg
import Derived.Test.YtiliffhopdiepaaE11
import Derived.Test.YtiliffhopdiepaaVInsS
import Derived.Test.YtiliffhopdiepaaVLibs
import Derived.Test.YtiliffhopdiepaaVSortS
import Derived.KernelRfl
namespace Go.E2.S
open Go Go.E2 Go.RowKit Go.Proofs
set_option linter.unusedVariables false
set_option linter.unusedSimpArgs false
def modes : Modes := fun f j => 
  if f = 4 then if j = 1 then [.pv 5] else [] else
  if f = 5 then if j = 1 then [.pv 5] else [] else
  if f = 6 then if j = 1 then [.pv 5] else [] else
  if f = 9 then if j = 0 then [.pv 8, .pv 1, .pv 1, .auto] else if j = 1 then [.pv 8] else if j = 2 then [.pv 1] else [] else
  if f = 10 then if j = 0 then [.pv 8, .pv 1, .pv 1, .auto] else [] else
  if f = 11 then if j = 0 then [.pv 8, .pv 1, .pv 1, .auto] else if j = 1 then [.pv 8] else if j = 2 then [.pv 1] else [] else
  if f = 12 then if j = 0 then [.pv 8] else [] else
  if f = 13 then if j = 0 then [.pv 1] else if j = 1 then [.pv 1] else [] else
  if f = 14 then if j = 0 then [.auto, .pv 8, .pv 1, .auto, .pv 1] else [] else
  if f = 15 then if j = 0 then [.pv 8, .pv 1, .pv 1, .auto] else if j = 1 then [.auto, .pv 8, .pv 1, .auto, .pv 1] else [] else
  if f = 16 then if j = 0 then [.auto] else [] else
  if f = 17 then if j = 0 then [.pv 8] else if j = 1 then [.pv 8] else [] else
  if f = 18 then if j = 0 then [.pv 8] else [] else
  if f = 19 then if j = 0 then [.pv 1] else [] else
  if f = 20 then if j = 0 then [.pv 1] else [] else
  if f = 21 then if j = 0 then [.auto] else [] else
  if f = 22 then if j = 0 then [.pv 8, .pv 1, .pv 1, .auto] else [] else
  if f = 23 then if j = 0 then [.pv 8, .pv 1, .pv 1, .auto] else if j = 1 then [.pv 8, .pv 1, .pv 1, .auto] else [] else
  if f = 24 then if j = 0 then [.pv 8, .pv 1, .pv 1, .auto] else [] else
  if f = 25 then if j = 0 then [.pv 1] else if j = 1 then [.auto] else [] else
  if f = 26 then if j = 0 then [.own 8, .own 1, .own 1, .auto] else if j = 1 then [.pv 1] else [] else
  if f = 27 then if j = 0 then [.auto] else [] else
  if f = 28 then if j = 0 then [.own 1] else [] else
  if f = 29 then if j = 0 then [.own 8] else [] else
  if f = 31 then if j = 0 then [.auto] else [] else
  if f = 32 then if j = 0 then [.pv 8] else [] else
  if f = 33 then if j = 0 then [.pv 1] else [] else
  if f = 34 then if j = 0 then [.pv 8, .pv 1, .pv 1, .auto] else if j = 1 then [.pv 1] else [] else
  if f = 35 then if j = 0 then [.own 1] else [] else
  if f = 36 then if j = 0 then [.own 1] else [] else
  if f = 37 then if j = 0 then [.pv 8] else [] else
  if f = 38 then if j = 0 then [.own 8] else [] else
  if f = 41 then if j = 0 then [.pv 8] else [] else
  if f = 42 then if j = 0 then [.pv 1] else [] else
  if f = 43 then if j = 0 then [.auto] else [] else
  if f = 45 then if j = 0 then [.own 8, .own 1, .own 1, .auto] else [] else
  if f = 46 then if j = 0 then [.auto] else [] else
  if f = 48 then if j = 0 then [.pv 1] else [] else
  if f = 49 then if j = 0 then [.pv 8] else if j = 1 then [.pv 1] else [] else
  if f = 50 then if j = 0 then [.own 1] else [] else
  if f = 54 then if j = 0 then [.pv 1] else [] else
  if f = 61 then if j = 0 then [.auto] else [] else
  if f = 62 then if j = 0 then [.own 1] else if j = 2 then [.own 1] else [] else
  if f = 63 then if j = 0 then [.pv 1] else [] else
  []
def rmod : FuncId → List (List CM) := fun f => if f = 12 then [[.own 8]] else if f = 18 then [[.own 8]] else if f = 24 then [[.own 8, .own 1, .own 1, .auto]] else if f = 25 then [[.own 1]] else if f = 26 then [[.own 8, .own 1, .own 1, .auto]] else if f = 29 then [[.own 8]] else if f = 36 then [[.own 1]] else if f = 41 then [[.own 8]] else if f = 45 then [[.own 8, .own 1, .own 1, .auto]] else if f = 49 then [[.own 8]] else if f = 50 then [[.own 1]] else []
def hints : FuncId → Nat → Option Hint := fun f id => 
  if f = 4 then if id = 2 then some ⟨[(1, []), (5, []), (7, []), (8, []), (9, [])], [(1, []), (4, []), (5, []), (7, [])]⟩ else if id = 0 then some ⟨[(1, []), (5, []), (7, [])], [(4, [])]⟩ else none else
  if f = 5 then if id = 4 then some ⟨[(0, []), (1, []), (5, []), (7, []), (8, []), (9, []), (11, [])], [(0, []), (1, []), (4, []), (5, []), (7, [])]⟩ else if id = 2 then some ⟨[(0, []), (1, []), (5, []), (7, []), (8, []), (9, []), (10, [])], [(0, []), (1, []), (4, []), (5, []), (7, []), (8, []), (9, [])]⟩ else if id = 0 then some ⟨[(0, []), (1, []), (5, []), (7, [])], [(4, [])]⟩ else none else
  if f = 6 then if id = 0 then some ⟨[(1, []), (2, []), (3, []), (9, []), (11, [])], [(2, []), (3, []), (8, []), (9, [])]⟩ else none else
  if f = 13 then if id = 0 then some ⟨[(0, []), (1, []), (5, [])], [(4, [])]⟩ else none else
  if f = 16 then if id = 0 then some ⟨[(3, [.own 1]), (6, []), (7, []), (8, [])], [(3, [.own 1])]⟩ else none else
  if f = 17 then if id = 0 then some ⟨[(0, []), (1, []), (5, [])], [(4, [])]⟩ else none else
  if f = 19 then if id = 2 then some ⟨[(0, []), (3, []), (4, []), (5, []), (6, [])], [(0, []), (3, []), (4, []), (5, [])]⟩ else if id = 0 then some ⟨[(0, []), (3, [.own 1])], [(2, [])]⟩ else none else
  if f = 20 then if id = 0 then some ⟨[(0, []), (1, []), (5, [])], [(4, [])]⟩ else none else
  if f = 21 then if id = 0 then some ⟨[(3, []), (6, []), (7, []), (8, [])], [(3, [])]⟩ else none else
  if f = 25 then if id = 2 then some ⟨[(6, [.own 1]), (27, []), (28, []), (29, [])], [(6, [.own 1])]⟩ else if id = 0 then some ⟨[(5, []), (6, [.own 1]), (13, []), (14, []), (15, [])], [(5, []), (6, [.own 1])]⟩ else none else
  if f = 26 then if id = 0 then some ⟨[(2, []), (3, []), (4, []), (5, [])], [(2, []), (4, [])]⟩ else none else
  if f = 27 then if id = 0 then some ⟨[(0, []), (1, []), (7, []), (8, [])], [(4, [])]⟩ else none else
  if f = 29 then if id = 0 then some ⟨[(0, []), (1, []), (5, []), (6, [])], [(0, []), (5, [])]⟩ else none else
  if f = 32 then if id = 0 then some ⟨[(0, []), (3, [])], [(2, [])]⟩ else none else
  if f = 33 then if id = 0 then some ⟨[(0, []), (3, [])], [(2, [])]⟩ else none else
  if f = 43 then if id = 0 then some ⟨[(0, []), (1, []), (7, []), (8, [])], [(4, [])]⟩ else none else
  if f = 46 then if id = 0 then some ⟨[(0, []), (1, []), (7, []), (8, [])], [(4, [])]⟩ else none else
  if f = 50 then if id = 0 then some ⟨[(0, []), (1, []), (5, []), (6, [])], [(0, []), (5, [])]⟩ else none else
  if f = 54 then if id = 0 then some ⟨[(3, []), (6, []), (7, []), (8, [])], [(2, []), (3, [])]⟩ else none else
  if f = 61 then if id = 0 then some ⟨[(0, []), (1, []), (6, []), (7, []), (8, [])], [(0, []), (1, []), (6, []), (7, [])]⟩ else none else
  none
noncomputable def libs : List (FuncId × LibFn) := [(28, Lib.libDelete), (35, Lib.libSort), (36, Lib.libCompact), (37, libClone 8 88), (38, libSortF Try.prog 8), (42, libClone 1 16), (62, Lib.libInsert)]
def mvs : Nat → Nat → Bool := fun t d => if t = 27 ∧ d = 38 then true else if t = 27 ∧ d = 41 then true else if t = 28 ∧ d = 38 then true else if t = 28 ∧ d = 41 then true else false
def cls : FuncId → Option ClM := fun f => if f = 30 then some (.own) else if f = 40 then some (.own) else if f = 44 then some (.frz [[1]]) else if f = 47 then some (.frz [[1]]) else if f = 58 then some (.frz [[0]]) else if f = 59 then some (.frz [[0]]) else if f = 60 then some (.frz [[0]]) else if f = 64 then some (.frz [[0]]) else if f = 66 then some (.frz [[1]]) else none
def mps : Nat → Bool := fun t => if t = 67 then true else false
theorem map67 : MapOk Try.prog 67 := ⟨24, 4, Try.underlying67, ⟨_, Try.underlying24⟩, fun em d w => by kernel_rfl, run_eq_key (tagsOf_ok _ _ (by kernel_rfl)), Try.zeroValue4⟩
theorem mpsOk : ∀ t, mps t = true → MapOk Try.prog t := fun t h => by
  unfold mps at h
  split at h
  · rename_i e; subst e; exact map67
  cases h
noncomputable def env : Env := ⟨tyOf Try.prog, fnOf Try.prog, tagsOf Try.prog, modes, rmod, hints, plainOf Try.prog, fun f => lookL f libs, mvs, cls, mps⟩
theorem hE : EnvOk Try.prog env := envOk modes rmod hints _ mvs cls mps (by kernel_rfl) mpsOk
@[simp] theorem mv9_14 : env.mv 9 14 = false := rfl
@[simp] theorem mv27_38 : env.mv 27 38 = true := rfl
@[simp] theorem mv27_41 : env.mv 27 41 = true := rfl
@[simp] theorem mv28_38 : env.mv 28 38 = true := rfl
@[simp] theorem mv28_41 : env.mv 28 41 = true := rfl
@[simp] theorem cl30 : env.cl 30 = some (.own) := rfl
@[simp] theorem cl40 : env.cl 40 = some (.own) := rfl
@[simp] theorem cl44 : env.cl 44 = some (.frz [[1]]) := rfl
@[simp] theorem cl47 : env.cl 47 = some (.frz [[1]]) := rfl
@[simp] theorem cl58 : env.cl 58 = some (.frz [[0]]) := rfl
@[simp] theorem cl59 : env.cl 59 = some (.frz [[0]]) := rfl
@[simp] theorem cl60 : env.cl 60 = some (.frz [[0]]) := rfl
@[simp] theorem cl64 : env.cl 64 = some (.frz [[0]]) := rfl
@[simp] theorem cl66 : env.cl 66 = some (.frz [[1]]) := rfl
@[simp] theorem mp67 : env.mps 67 = true := rfl
theorem hL : LibOk Try.prog env := libOk_of (by
  intro e he
  simp only [libs, List.mem_cons, List.not_mem_nil, or_false] at he
  rcases he with rfl | rfl | rfl | rfl | rfl | rfl | rfl
  · exact Lib.good_delete
  · exact Lib.good_sort
  · exact Lib.good_compact
  · exact Lib.good_cloneItem
  · exact Lib.good_sortItem
  · exact Lib.good_cloneStr
  · exact Lib.good_insert)
noncomputable abbrev A : Ora := ans Try.prog env
@[simp] theorem t1 : env.tab 1 = some { agg := false, size := 1, bytes := 8, elem := 0, fields := [], zero := [.any], es := [0], str := false, bool := false, int := none, apl := [] } := by kernel_rfl
@[simp] theorem t2 : env.tab 2 = some { agg := false, size := 1, bytes := 8, elem := 0, fields := [], zero := [.pv (.int .i64 0)], es := [0], str := false, bool := false, int := some .i64, apl := [] } := by kernel_rfl
@[simp] theorem t3 : env.tab 3 = some { agg := false, size := 1, bytes := 8, elem := 0, fields := [], zero := [.pv (.int .i64 0)], es := [0], str := false, bool := false, int := some .i64, apl := [] } := by kernel_rfl
@[simp] theorem t4 : env.tab 4 = some { agg := false, size := 1, bytes := 1, elem := 0, fields := [], zero := [.pv (.bool false)], es := [0], str := false, bool := true, int := none, apl := [] } := by kernel_rfl
@[simp] theorem t5 : env.tab 5 = some { agg := false, size := 1, bytes := 1, elem := 0, fields := [], zero := [.pv (.int .u8 0)], es := [0], str := false, bool := false, int := some .u8, apl := [] } := by kernel_rfl
@[simp] theorem t6 : env.tab 6 = some { agg := false, size := 1, bytes := 1, elem := 0, fields := [], zero := [.pv (.int .u8 0)], es := [0], str := false, bool := false, int := some .u8, apl := [] } := by kernel_rfl
@[simp] theorem t7 : env.tab 7 = some { agg := true, size := 4, bytes := 24, elem := 0, fields := [(0, 2), (1, 3), (2, 4), (3, 6)], zero := [.pv (.int .i64 0), .pv (.int .i64 0), .pv (.bool false), .pv (.int .u8 0)], es := [0, 0, 0, 0], str := false, bool := false, int := none, apl := [] } := by kernel_rfl
@[simp] theorem t8 : env.tab 8 = some { agg := true, size := 4, bytes := 24, elem := 0, fields := [(0, 2), (1, 3), (2, 4), (3, 6)], zero := [.pv (.int .i64 0), .pv (.int .i64 0), .pv (.bool false), .pv (.int .u8 0)], es := [0, 0, 0, 0], str := false, bool := false, int := none, apl := [] } := by kernel_rfl
@[simp] theorem t9 : env.tab 9 = some { agg := false, size := 1, bytes := 16, elem := 0, fields := [], zero := [.pv (.str ⟨#[]⟩)], es := [0], str := true, bool := false, int := none, apl := [] } := by kernel_rfl
@[simp] theorem t10 : env.tab 10 = some { agg := false, size := 1, bytes := 16, elem := 0, fields := [], zero := [.pv (.str ⟨#[]⟩)], es := [0], str := true, bool := false, int := none, apl := [] } := by kernel_rfl
@[simp] theorem t11 : env.tab 11 = some { agg := false, size := 1, bytes := 16, elem := 0, fields := [], zero := [.pv (.str ⟨#[]⟩)], es := [0], str := true, bool := false, int := none, apl := [] } := by kernel_rfl
@[simp] theorem t12 : env.tab 12 = some { agg := false, size := 1, bytes := 8, elem := 0, fields := [], zero := [.pv (.int .u64 0)], es := [0], str := false, bool := false, int := some .u64, apl := [] } := by kernel_rfl
@[simp] theorem t13 : env.tab 13 = some { agg := true, size := 2, bytes := 24, elem := 0, fields := [(0, 9), (1, 12)], zero := [.pv (.str ⟨#[]⟩), .pv (.int .u64 0)], es := [0, 0], str := false, bool := false, int := none, apl := [] } := by kernel_rfl
@[simp] theorem t14 : env.tab 14 = some { agg := true, size := 2, bytes := 24, elem := 0, fields := [(0, 9), (1, 12)], zero := [.pv (.str ⟨#[]⟩), .pv (.int .u64 0)], es := [0, 0], str := false, bool := false, int := none, apl := [] } := by kernel_rfl
@[simp] theorem t15 : env.tab 15 = some { agg := false, size := 1, bytes := 8, elem := 0, fields := [], zero := [.any], es := [0], str := false, bool := false, int := none, apl := [] } := by kernel_rfl
@[simp] theorem t16 : env.tab 16 = some { agg := false, size := 1, bytes := 8, elem := 0, fields := [], zero := [.any], es := [0], str := false, bool := false, int := none, apl := [] } := by kernel_rfl
@[simp] theorem t17 : env.tab 17 = some { agg := false, size := 1, bytes := 8, elem := 0, fields := [], zero := [.any], es := [0], str := false, bool := false, int := none, apl := [] } := by kernel_rfl
@[simp] theorem t18 : env.tab 18 = some { agg := true, size := 1, bytes := 8, elem := 0, fields := [(0, 17)], zero := [.any], es := [0], str := false, bool := false, int := none, apl := [] } := by kernel_rfl
@[simp] theorem t19 : env.tab 19 = some { agg := true, size := 1, bytes := 8, elem := 0, fields := [(0, 17)], zero := [.any], es := [0], str := false, bool := false, int := none, apl := [] } := by kernel_rfl
@[simp] theorem t21 : env.tab 21 = some { agg := false, size := 1, bytes := 4, elem := 0, fields := [], zero := [.pv (.int .i32 0)], es := [0], str := false, bool := false, int := some .i32, apl := [] } := by kernel_rfl
@[simp] theorem t22 : env.tab 22 = some { agg := false, size := 1, bytes := 8, elem := 0, fields := [], zero := [.any], es := [0], str := false, bool := false, int := none, apl := [] } := by kernel_rfl
@[simp] theorem t23 : env.tab 23 = some { agg := true, size := 3, bytes := 24, elem := 0, fields := [(0, 3), (1, 3), (2, 3)], zero := [.pv (.int .i64 0), .pv (.int .i64 0), .pv (.int .i64 0)], es := [0, 0, 0], str := false, bool := false, int := none, apl := [] } := by kernel_rfl
@[simp] theorem t24 : env.tab 24 = some { agg := true, size := 3, bytes := 24, elem := 0, fields := [(0, 3), (1, 3), (2, 3)], zero := [.pv (.int .i64 0), .pv (.int .i64 0), .pv (.int .i64 0)], es := [0, 0, 0], str := false, bool := false, int := none, apl := [] } := by kernel_rfl
@[simp] theorem t25 : env.tab 25 = some { agg := true, size := 8, bytes := 88, elem := 0, fields := [(0, 9), (1, 9), (2, 3), (3, 9), (4, 2), (5, 24)], zero := [.pv (.str ⟨#[]⟩), .pv (.str ⟨#[]⟩), .pv (.int .i64 0), .pv (.str ⟨#[]⟩), .pv (.int .i64 0), .pv (.int .i64 0), .pv (.int .i64 0), .pv (.int .i64 0)], es := [0, 0, 0, 0, 0, 0, 0, 0], str := false, bool := false, int := none, apl := [] } := by kernel_rfl
@[simp] theorem t26 : env.tab 26 = some { agg := true, size := 8, bytes := 88, elem := 0, fields := [(0, 9), (1, 9), (2, 3), (3, 9), (4, 2), (5, 24)], zero := [.pv (.str ⟨#[]⟩), .pv (.str ⟨#[]⟩), .pv (.int .i64 0), .pv (.str ⟨#[]⟩), .pv (.int .i64 0), .pv (.int .i64 0), .pv (.int .i64 0), .pv (.int .i64 0)], es := [0, 0, 0, 0, 0, 0, 0, 0], str := false, bool := false, int := none, apl := [] } := by kernel_rfl
@[simp] theorem t27 : env.tab 27 = some { agg := false, size := 1, bytes := 24, elem := 26, fields := [], zero := [.nil], es := [8], str := false, bool := false, int := none, apl := [] } := by kernel_rfl
@[simp] theorem t28 : env.tab 28 = some { agg := false, size := 1, bytes := 24, elem := 9, fields := [], zero := [.nil], es := [1], str := false, bool := false, int := none, apl := [] } := by kernel_rfl
@[simp] theorem t29 : env.tab 29 = some { agg := true, size := 4, bytes := 80, elem := 0, fields := [(0, 27), (1, 28), (2, 28), (3, 3)], zero := [.nil, .nil, .nil, .pv (.int .i64 0)], es := [8, 1, 1, 0], str := false, bool := false, int := none, apl := [] } := by kernel_rfl
@[simp] theorem t30 : env.tab 30 = some { agg := true, size := 4, bytes := 80, elem := 0, fields := [(0, 27), (1, 28), (2, 28), (3, 3)], zero := [.nil, .nil, .nil, .pv (.int .i64 0)], es := [8, 1, 1, 0], str := false, bool := false, int := none, apl := [] } := by kernel_rfl
@[simp] theorem t31 : env.tab 31 = some { agg := false, size := 1, bytes := 8, elem := 0, fields := [], zero := [.pv (.int .i64 0)], es := [0], str := false, bool := false, int := some .i64, apl := [] } := by kernel_rfl
@[simp] theorem t33 : env.tab 33 = some { agg := false, size := 1, bytes := 8, elem := 0, fields := [], zero := [.any], es := [0], str := false, bool := false, int := none, apl := [] } := by kernel_rfl
@[simp] theorem t34 : env.tab 34 = some { agg := false, size := 1, bytes := 8, elem := 0, fields := [], zero := [.any], es := [0], str := false, bool := false, int := none, apl := [] } := by kernel_rfl
@[simp] theorem t35 : env.tab 35 = some { agg := false, size := 1, bytes := 8, elem := 0, fields := [], zero := [.any], es := [0], str := false, bool := false, int := none, apl := [] } := by kernel_rfl
@[simp] theorem t36 : env.tab 36 = some { agg := false, size := 1, bytes := 8, elem := 0, fields := [], zero := [.any], es := [0], str := false, bool := false, int := none, apl := [] } := by kernel_rfl
@[simp] theorem t37 : env.tab 37 = some { agg := false, size := 1, bytes := 8, elem := 0, fields := [], zero := [.any], es := [0], str := false, bool := false, int := none, apl := [] } := by kernel_rfl
@[simp] theorem t38 : env.tab 38 = some { agg := false, size := 1, bytes := 8, elem := 0, fields := [], zero := [.any], es := [0], str := false, bool := false, int := none, apl := [] } := by kernel_rfl
@[simp] theorem t39 : env.tab 39 = some { agg := false, size := 1, bytes := 24, elem := 42, fields := [], zero := [.nil], es := [5], str := false, bool := false, int := none, apl := [] } := by kernel_rfl
@[simp] theorem t40 : env.tab 40 = some { agg := false, size := 1, bytes := 8, elem := 0, fields := [], zero := [.any], es := [0], str := false, bool := false, int := none, apl := [] } := by kernel_rfl
@[simp] theorem t41 : env.tab 41 = some { agg := true, size := 5, bytes := 96, elem := 0, fields := [(0, 3), (1, 27), (2, 28), (3, 9), (4, 28)], zero := [.pv (.int .i64 0), .nil, .nil, .pv (.str ⟨#[]⟩), .nil], es := [0, 8, 1, 0, 1], str := false, bool := false, int := none, apl := [] } := by kernel_rfl
@[simp] theorem t42 : env.tab 42 = some { agg := true, size := 5, bytes := 96, elem := 0, fields := [(0, 3), (1, 27), (2, 28), (3, 9), (4, 28)], zero := [.pv (.int .i64 0), .nil, .nil, .pv (.str ⟨#[]⟩), .nil], es := [0, 8, 1, 0, 1], str := false, bool := false, int := none, apl := [] } := by kernel_rfl
@[simp] theorem t43 : env.tab 43 = some { agg := false, size := 1, bytes := 8, elem := 0, fields := [], zero := [.any], es := [0], str := false, bool := false, int := none, apl := [] } := by kernel_rfl
@[simp] theorem t44 : env.tab 44 = some { agg := false, size := 1, bytes := 8, elem := 0, fields := [], zero := [.any], es := [0], str := false, bool := false, int := none, apl := [] } := by kernel_rfl
@[simp] theorem t45 : env.tab 45 = some { agg := false, size := 1, bytes := 8, elem := 0, fields := [], zero := [.any], es := [0], str := false, bool := false, int := none, apl := [] } := by kernel_rfl
@[simp] theorem t46 : env.tab 46 = some { agg := false, size := 1, bytes := 8, elem := 0, fields := [], zero := [.any], es := [0], str := false, bool := false, int := none, apl := [] } := by kernel_rfl
@[simp] theorem t47 : env.tab 47 = some { agg := false, size := 1, bytes := 8, elem := 0, fields := [], zero := [.any], es := [0], str := false, bool := false, int := none, apl := [] } := by kernel_rfl
@[simp] theorem t48 : env.tab 48 = some { agg := false, size := 1, bytes := 8, elem := 0, fields := [], zero := [.any], es := [0], str := false, bool := false, int := none, apl := [] } := by kernel_rfl
@[simp] theorem t49 : env.tab 49 = some { agg := false, size := 1, bytes := 8, elem := 0, fields := [], zero := [.pv (.int .u64 0)], es := [0], str := false, bool := false, int := some .u64, apl := [] } := by kernel_rfl
@[simp] theorem t50 : env.tab 50 = some { agg := false, size := 1, bytes := 8, elem := 0, fields := [], zero := [.any], es := [0], str := false, bool := false, int := none, apl := [] } := by kernel_rfl
@[simp] theorem t52 : env.tab 52 = some { agg := false, size := 1, bytes := 8, elem := 0, fields := [], zero := [.any], es := [0], str := false, bool := false, int := none, apl := [] } := by kernel_rfl
@[simp] theorem t54 : env.tab 54 = some { agg := false, size := 1, bytes := 8, elem := 0, fields := [], zero := [.any], es := [0], str := false, bool := false, int := none, apl := [] } := by kernel_rfl
@[simp] theorem t55 : env.tab 55 = some { agg := false, size := 1, bytes := 8, elem := 0, fields := [], zero := [.any], es := [0], str := false, bool := false, int := none, apl := [] } := by kernel_rfl
@[simp] theorem t56 : env.tab 56 = some { agg := false, size := 1, bytes := 8, elem := 0, fields := [], zero := [.any], es := [0], str := false, bool := false, int := none, apl := [] } := by kernel_rfl
@[simp] theorem t57 : env.tab 57 = some { agg := false, size := 1, bytes := 8, elem := 0, fields := [], zero := [.any], es := [0], str := false, bool := false, int := none, apl := [] } := by kernel_rfl
@[simp] theorem t58 : env.tab 58 = some { agg := false, size := 1, bytes := 8, elem := 0, fields := [], zero := [.any], es := [0], str := false, bool := false, int := none, apl := [] } := by kernel_rfl
@[simp] theorem t59 : env.tab 59 = some { agg := false, size := 1, bytes := 8, elem := 0, fields := [], zero := [.any], es := [0], str := false, bool := false, int := none, apl := [] } := by kernel_rfl
@[simp] theorem t60 : env.tab 60 = some { agg := false, size := 1, bytes := 8, elem := 0, fields := [], zero := [.any], es := [0], str := false, bool := false, int := none, apl := [] } := by kernel_rfl
@[simp] theorem t61 : env.tab 61 = some { agg := false, size := 1, bytes := 8, elem := 0, fields := [], zero := [.any], es := [0], str := false, bool := false, int := none, apl := [] } := by kernel_rfl
@[simp] theorem t62 : env.tab 62 = some { agg := false, size := 1, bytes := 8, elem := 0, fields := [], zero := [.any], es := [0], str := false, bool := false, int := none, apl := [] } := by kernel_rfl
@[simp] theorem t63 : env.tab 63 = some { agg := false, size := 1, bytes := 8, elem := 0, fields := [], zero := [.any], es := [0], str := false, bool := false, int := none, apl := [] } := by kernel_rfl
@[simp] theorem t64 : env.tab 64 = some { agg := false, size := 1, bytes := 8, elem := 0, fields := [], zero := [.any], es := [0], str := false, bool := false, int := none, apl := [] } := by kernel_rfl
@[simp] theorem t65 : env.tab 65 = some { agg := false, size := 1, bytes := 8, elem := 0, fields := [], zero := [.any], es := [0], str := false, bool := false, int := none, apl := [] } := by kernel_rfl
@[simp] theorem t66 : env.tab 66 = some { agg := false, size := 1, bytes := 8, elem := 0, fields := [], zero := [.any], es := [0], str := false, bool := false, int := none, apl := [] } := by kernel_rfl
@[simp] theorem t67 : env.tab 67 = some { agg := false, size := 1, bytes := 8, elem := 0, fields := [], zero := [.any], es := [0], str := false, bool := false, int := none, apl := [] } := by kernel_rfl
@[simp] theorem t70 : env.tab 70 = some { agg := false, size := 1, bytes := 8, elem := 0, fields := [], zero := [.any], es := [0], str := false, bool := false, int := none, apl := [] } := by kernel_rfl
@[simp] theorem t73 : env.tab 73 = some { agg := false, size := 1, bytes := 8, elem := 0, fields := [], zero := [.any], es := [0], str := false, bool := false, int := none, apl := [] } := by kernel_rfl
@[simp] theorem t86 : env.tab 86 = some { agg := false, size := 1, bytes := 8, elem := 0, fields := [], zero := [.any], es := [0], str := false, bool := false, int := none, apl := [] } := by kernel_rfl
@[simp] theorem t87 : env.tab 87 = some { agg := false, size := 1, bytes := 8, elem := 0, fields := [], zero := [.pv (.int .i64 0)], es := [0], str := false, bool := false, int := some .i64, apl := [] } := by kernel_rfl
@[simp] theorem t89 : env.tab 89 = some { agg := false, size := 1, bytes := 8, elem := 0, fields := [], zero := [.any], es := [0], str := false, bool := false, int := none, apl := [] } := by kernel_rfl
@[simp] theorem t92 : env.tab 92 = some { agg := false, size := 1, bytes := 8, elem := 0, fields := [], zero := [.any], es := [0], str := false, bool := false, int := none, apl := [] } := by kernel_rfl
@[simp] theorem t97 : env.tab 97 = some { agg := false, size := 1, bytes := 8, elem := 0, fields := [], zero := [.any], es := [0], str := false, bool := false, int := none, apl := [] } := by kernel_rfl
@[simp] theorem t98 : env.tab 98 = some { agg := false, size := 1, bytes := 8, elem := 0, fields := [], zero := [.any], es := [0], str := false, bool := false, int := none, apl := [] } := by kernel_rfl
@[simp] theorem t102 : env.tab 102 = some { agg := false, size := 1, bytes := 24, elem := 3, fields := [], zero := [.nil], es := [1], str := false, bool := false, int := none, apl := [] } := by kernel_rfl
@[simp] theorem t120 : env.tab 120 = some { agg := true, size := 4, bytes := 40, elem := 0, fields := [(0, 17), (1, 17), (2, 17), (3, 9)], zero := [.any, .any, .any, .pv (.str ⟨#[]⟩)], es := [0, 0, 0, 0], str := false, bool := false, int := none, apl := [] } := by kernel_rfl
@[simp] theorem tg26 : env.tags 26 = some [.s, .s, .i, .s, .i, .i, .i, .i] := by kernel_rfl
@[simp] theorem F3 : env.fns 3 = true := by kernel_rfl
@[simp] theorem M3_0 : env.M 3 0 = [] := rfl
theorem L3 : env.lib 3 = none := by show lookL 3 libs = _; simp [libs, lookL]
@[simp] theorem R3 : env.R 3 = [] := rfl
@[simp] theorem F4 : env.fns 4 = true := by kernel_rfl
@[simp] theorem M4_0 : env.M 4 0 = [] := rfl
@[simp] theorem M4_1 : env.M 4 1 = [.pv 5] := rfl
theorem L4 : env.lib 4 = none := by show lookL 4 libs = _; simp [libs, lookL]
@[simp] theorem R4 : env.R 4 = [] := rfl
@[simp] theorem F5 : env.fns 5 = true := by kernel_rfl
@[simp] theorem M5_0 : env.M 5 0 = [] := rfl
@[simp] theorem M5_1 : env.M 5 1 = [.pv 5] := rfl
theorem L5 : env.lib 5 = none := by show lookL 5 libs = _; simp [libs, lookL]
@[simp] theorem R5 : env.R 5 = [] := rfl
@[simp] theorem F6 : env.fns 6 = true := by kernel_rfl
@[simp] theorem M6_0 : env.M 6 0 = [] := rfl
@[simp] theorem M6_1 : env.M 6 1 = [.pv 5] := rfl
@[simp] theorem M6_2 : env.M 6 2 = [] := rfl
@[simp] theorem M6_3 : env.M 6 3 = [] := rfl
theorem L6 : env.lib 6 = none := by show lookL 6 libs = _; simp [libs, lookL]
@[simp] theorem R6 : env.R 6 = [] := rfl
@[simp] theorem F7 : env.fns 7 = true := by kernel_rfl
theorem L7 : env.lib 7 = none := by show lookL 7 libs = _; simp [libs, lookL]
@[simp] theorem R7 : env.R 7 = [] := rfl
@[simp] theorem F8 : env.fns 8 = true := by kernel_rfl
@[simp] theorem M8_0 : env.M 8 0 = [] := rfl
theorem L8 : env.lib 8 = none := by show lookL 8 libs = _; simp [libs, lookL]
@[simp] theorem R8 : env.R 8 = [] := rfl
@[simp] theorem F9 : env.fns 9 = true := by kernel_rfl
@[simp] theorem M9_0 : env.M 9 0 = [.pv 8, .pv 1, .pv 1, .auto] := rfl
@[simp] theorem M9_1 : env.M 9 1 = [.pv 8] := rfl
@[simp] theorem M9_2 : env.M 9 2 = [.pv 1] := rfl
theorem L9 : env.lib 9 = none := by show lookL 9 libs = _; simp [libs, lookL]
@[simp] theorem R9 : env.R 9 = [] := rfl
@[simp] theorem F10 : env.fns 10 = true := by kernel_rfl
@[simp] theorem M10_0 : env.M 10 0 = [.pv 8, .pv 1, .pv 1, .auto] := rfl
@[simp] theorem M10_1 : env.M 10 1 = [] := rfl
theorem L10 : env.lib 10 = none := by show lookL 10 libs = _; simp [libs, lookL]
@[simp] theorem R10 : env.R 10 = [] := rfl
@[simp] theorem F11 : env.fns 11 = true := by kernel_rfl
@[simp] theorem M11_0 : env.M 11 0 = [.pv 8, .pv 1, .pv 1, .auto] := rfl
@[simp] theorem M11_1 : env.M 11 1 = [.pv 8] := rfl
@[simp] theorem M11_2 : env.M 11 2 = [.pv 1] := rfl
theorem L11 : env.lib 11 = none := by show lookL 11 libs = _; simp [libs, lookL]
@[simp] theorem R11 : env.R 11 = [] := rfl
@[simp] theorem F12 : env.fns 12 = true := by kernel_rfl
@[simp] theorem M12_0 : env.M 12 0 = [.pv 8] := rfl
theorem L12 : env.lib 12 = none := by show lookL 12 libs = _; simp [libs, lookL]
@[simp] theorem R12 : env.R 12 = [[.own 8]] := rfl
@[simp] theorem F13 : env.fns 13 = true := by kernel_rfl
@[simp] theorem M13_0 : env.M 13 0 = [.pv 1] := rfl
@[simp] theorem M13_1 : env.M 13 1 = [.pv 1] := rfl
theorem L13 : env.lib 13 = none := by show lookL 13 libs = _; simp [libs, lookL]
@[simp] theorem R13 : env.R 13 = [] := rfl
@[simp] theorem F14 : env.fns 14 = true := by kernel_rfl
@[simp] theorem M14_0 : env.M 14 0 = [.auto, .pv 8, .pv 1, .auto, .pv 1] := rfl
theorem L14 : env.lib 14 = none := by show lookL 14 libs = _; simp [libs, lookL]
@[simp] theorem R14 : env.R 14 = [] := rfl
@[simp] theorem F15 : env.fns 15 = true := by kernel_rfl
@[simp] theorem M15_0 : env.M 15 0 = [.pv 8, .pv 1, .pv 1, .auto] := rfl
@[simp] theorem M15_1 : env.M 15 1 = [.auto, .pv 8, .pv 1, .auto, .pv 1] := rfl
theorem L15 : env.lib 15 = none := by show lookL 15 libs = _; simp [libs, lookL]
@[simp] theorem R15 : env.R 15 = [] := rfl
@[simp] theorem F16 : env.fns 16 = true := by kernel_rfl
@[simp] theorem M16_0 : env.M 16 0 = [.auto] := rfl
theorem L16 : env.lib 16 = none := by show lookL 16 libs = _; simp [libs, lookL]
@[simp] theorem R16 : env.R 16 = [] := rfl
@[simp] theorem F17 : env.fns 17 = true := by kernel_rfl
@[simp] theorem M17_0 : env.M 17 0 = [.pv 8] := rfl
@[simp] theorem M17_1 : env.M 17 1 = [.pv 8] := rfl
theorem L17 : env.lib 17 = none := by show lookL 17 libs = _; simp [libs, lookL]
@[simp] theorem R17 : env.R 17 = [] := rfl
@[simp] theorem F18 : env.fns 18 = true := by kernel_rfl
@[simp] theorem M18_0 : env.M 18 0 = [.pv 8] := rfl
theorem L18 : env.lib 18 = none := by show lookL 18 libs = _; simp [libs, lookL]
@[simp] theorem R18 : env.R 18 = [[.own 8]] := rfl
@[simp] theorem F19 : env.fns 19 = true := by kernel_rfl
@[simp] theorem M19_0 : env.M 19 0 = [.pv 1] := rfl
theorem L19 : env.lib 19 = none := by show lookL 19 libs = _; simp [libs, lookL]
@[simp] theorem R19 : env.R 19 = [] := rfl
@[simp] theorem F20 : env.fns 20 = true := by kernel_rfl
@[simp] theorem M20_0 : env.M 20 0 = [.pv 1] := rfl
@[simp] theorem M20_1 : env.M 20 1 = [] := rfl
theorem L20 : env.lib 20 = none := by show lookL 20 libs = _; simp [libs, lookL]
@[simp] theorem R20 : env.R 20 = [] := rfl
@[simp] theorem F21 : env.fns 21 = true := by kernel_rfl
@[simp] theorem M21_0 : env.M 21 0 = [.auto] := rfl
theorem L21 : env.lib 21 = none := by show lookL 21 libs = _; simp [libs, lookL]
@[simp] theorem R21 : env.R 21 = [] := rfl
@[simp] theorem F22 : env.fns 22 = true := by kernel_rfl
@[simp] theorem M22_0 : env.M 22 0 = [.pv 8, .pv 1, .pv 1, .auto] := rfl
@[simp] theorem M22_1 : env.M 22 1 = [] := rfl
theorem L22 : env.lib 22 = none := by show lookL 22 libs = _; simp [libs, lookL]
@[simp] theorem R22 : env.R 22 = [] := rfl
@[simp] theorem F23 : env.fns 23 = true := by kernel_rfl
@[simp] theorem M23_0 : env.M 23 0 = [.pv 8, .pv 1, .pv 1, .auto] := rfl
@[simp] theorem M23_1 : env.M 23 1 = [.pv 8, .pv 1, .pv 1, .auto] := rfl
theorem L23 : env.lib 23 = none := by show lookL 23 libs = _; simp [libs, lookL]
@[simp] theorem R23 : env.R 23 = [] := rfl
@[simp] theorem F24 : env.fns 24 = true := by kernel_rfl
@[simp] theorem M24_0 : env.M 24 0 = [.pv 8, .pv 1, .pv 1, .auto] := rfl
theorem L24 : env.lib 24 = none := by show lookL 24 libs = _; simp [libs, lookL]
@[simp] theorem R24 : env.R 24 = [[.own 8, .own 1, .own 1, .auto]] := rfl
@[simp] theorem F25 : env.fns 25 = true := by kernel_rfl
@[simp] theorem M25_0 : env.M 25 0 = [.pv 1] := rfl
@[simp] theorem M25_1 : env.M 25 1 = [.auto] := rfl
theorem L25 : env.lib 25 = none := by show lookL 25 libs = _; simp [libs, lookL]
@[simp] theorem R25 : env.R 25 = [[.own 1]] := rfl
@[simp] theorem F26 : env.fns 26 = true := by kernel_rfl
@[simp] theorem M26_0 : env.M 26 0 = [.own 8, .own 1, .own 1, .auto] := rfl
@[simp] theorem M26_1 : env.M 26 1 = [.pv 1] := rfl
theorem L26 : env.lib 26 = none := by show lookL 26 libs = _; simp [libs, lookL]
@[simp] theorem R26 : env.R 26 = [[.own 8, .own 1, .own 1, .auto]] := rfl
@[simp] theorem F27 : env.fns 27 = true := by kernel_rfl
@[simp] theorem M27_0 : env.M 27 0 = [.auto] := rfl
@[simp] theorem M27_1 : env.M 27 1 = [] := rfl
theorem L27 : env.lib 27 = none := by show lookL 27 libs = _; simp [libs, lookL]
@[simp] theorem R27 : env.R 27 = [] := rfl
@[simp] theorem F28 : env.fns 28 = true := by kernel_rfl
@[simp] theorem M28_0 : env.M 28 0 = [.own 1] := rfl
@[simp] theorem M28_1 : env.M 28 1 = [] := rfl
@[simp] theorem M28_2 : env.M 28 2 = [] := rfl
theorem L28 : env.lib 28 = some (Lib.libDelete) := by show lookL 28 libs = _; simp [libs, lookL]
@[simp] theorem F29 : env.fns 29 = true := by kernel_rfl
@[simp] theorem M29_0 : env.M 29 0 = [.own 8] := rfl
@[simp] theorem M29_1 : env.M 29 1 = [] := rfl
theorem L29 : env.lib 29 = none := by show lookL 29 libs = _; simp [libs, lookL]
@[simp] theorem R29 : env.R 29 = [[.own 8]] := rfl
@[simp] theorem F30 : env.fns 30 = true := by kernel_rfl
@[simp] theorem M30_0 : env.M 30 0 = [] := rfl
theorem L30 : env.lib 30 = none := by show lookL 30 libs = _; simp [libs, lookL]
@[simp] theorem R30 : env.R 30 = [] := rfl
@[simp] theorem F31 : env.fns 31 = true := by kernel_rfl
@[simp] theorem M31_0 : env.M 31 0 = [.auto] := rfl
@[simp] theorem M31_1 : env.M 31 1 = [] := rfl
theorem L31 : env.lib 31 = none := by show lookL 31 libs = _; simp [libs, lookL]
@[simp] theorem R31 : env.R 31 = [] := rfl
@[simp] theorem F32 : env.fns 32 = true := by kernel_rfl
@[simp] theorem M32_0 : env.M 32 0 = [.pv 8] := rfl
theorem L32 : env.lib 32 = none := by show lookL 32 libs = _; simp [libs, lookL]
@[simp] theorem R32 : env.R 32 = [] := rfl
@[simp] theorem F33 : env.fns 33 = true := by kernel_rfl
@[simp] theorem M33_0 : env.M 33 0 = [.pv 1] := rfl
theorem L33 : env.lib 33 = none := by show lookL 33 libs = _; simp [libs, lookL]
@[simp] theorem R33 : env.R 33 = [] := rfl
@[simp] theorem F34 : env.fns 34 = true := by kernel_rfl
@[simp] theorem M34_0 : env.M 34 0 = [.pv 8, .pv 1, .pv 1, .auto] := rfl
@[simp] theorem M34_1 : env.M 34 1 = [.pv 1] := rfl
theorem L34 : env.lib 34 = none := by show lookL 34 libs = _; simp [libs, lookL]
@[simp] theorem R34 : env.R 34 = [] := rfl
@[simp] theorem F35 : env.fns 35 = true := by kernel_rfl
@[simp] theorem M35_0 : env.M 35 0 = [.own 1] := rfl
theorem L35 : env.lib 35 = some (Lib.libSort) := by show lookL 35 libs = _; simp [libs, lookL]
@[simp] theorem F36 : env.fns 36 = true := by kernel_rfl
@[simp] theorem M36_0 : env.M 36 0 = [.own 1] := rfl
theorem L36 : env.lib 36 = some (Lib.libCompact) := by show lookL 36 libs = _; simp [libs, lookL]
@[simp] theorem F37 : env.fns 37 = true := by kernel_rfl
@[simp] theorem M37_0 : env.M 37 0 = [.pv 8] := rfl
theorem L37 : env.lib 37 = some (libClone 8 88) := by show lookL 37 libs = _; simp [libs, lookL]
@[simp] theorem F38 : env.fns 38 = true := by kernel_rfl
@[simp] theorem M38_0 : env.M 38 0 = [.own 8] := rfl
@[simp] theorem M38_1 : env.M 38 1 = [] := rfl
theorem L38 : env.lib 38 = some (libSortF Try.prog 8) := by show lookL 38 libs = _; simp [libs, lookL]
@[simp] theorem F39 : env.fns 39 = true := by kernel_rfl
@[simp] theorem M39_0 : env.M 39 0 = [] := rfl
@[simp] theorem M39_1 : env.M 39 1 = [] := rfl
theorem L39 : env.lib 39 = none := by show lookL 39 libs = _; simp [libs, lookL]
@[simp] theorem R39 : env.R 39 = [] := rfl
@[simp] theorem F40 : env.fns 40 = true := by kernel_rfl
@[simp] theorem M40_0 : env.M 40 0 = [] := rfl
theorem L40 : env.lib 40 = none := by show lookL 40 libs = _; simp [libs, lookL]
@[simp] theorem R40 : env.R 40 = [] := rfl
@[simp] theorem F41 : env.fns 41 = true := by kernel_rfl
@[simp] theorem M41_0 : env.M 41 0 = [.pv 8] := rfl
@[simp] theorem M41_1 : env.M 41 1 = [] := rfl
theorem L41 : env.lib 41 = none := by show lookL 41 libs = _; simp [libs, lookL]
@[simp] theorem R41 : env.R 41 = [[.own 8]] := rfl
@[simp] theorem F42 : env.fns 42 = true := by kernel_rfl
@[simp] theorem M42_0 : env.M 42 0 = [.pv 1] := rfl
theorem L42 : env.lib 42 = some (libClone 1 16) := by show lookL 42 libs = _; simp [libs, lookL]
@[simp] theorem F43 : env.fns 43 = true := by kernel_rfl
@[simp] theorem M43_0 : env.M 43 0 = [.auto] := rfl
@[simp] theorem M43_1 : env.M 43 1 = [] := rfl
theorem L43 : env.lib 43 = none := by show lookL 43 libs = _; simp [libs, lookL]
@[simp] theorem R43 : env.R 43 = [] := rfl
@[simp] theorem F44 : env.fns 44 = true := by kernel_rfl
@[simp] theorem M44_0 : env.M 44 0 = [] := rfl
theorem L44 : env.lib 44 = none := by show lookL 44 libs = _; simp [libs, lookL]
@[simp] theorem R44 : env.R 44 = [] := rfl
@[simp] theorem F45 : env.fns 45 = true := by kernel_rfl
@[simp] theorem M45_0 : env.M 45 0 = [.own 8, .own 1, .own 1, .auto] := rfl
@[simp] theorem M45_1 : env.M 45 1 = [] := rfl
theorem L45 : env.lib 45 = none := by show lookL 45 libs = _; simp [libs, lookL]
@[simp] theorem R45 : env.R 45 = [[.own 8, .own 1, .own 1, .auto]] := rfl
@[simp] theorem F46 : env.fns 46 = true := by kernel_rfl
@[simp] theorem M46_0 : env.M 46 0 = [.auto] := rfl
@[simp] theorem M46_1 : env.M 46 1 = [] := rfl
theorem L46 : env.lib 46 = none := by show lookL 46 libs = _; simp [libs, lookL]
@[simp] theorem R46 : env.R 46 = [] := rfl
@[simp] theorem F47 : env.fns 47 = true := by kernel_rfl
@[simp] theorem M47_0 : env.M 47 0 = [] := rfl
theorem L47 : env.lib 47 = none := by show lookL 47 libs = _; simp [libs, lookL]
@[simp] theorem R47 : env.R 47 = [] := rfl
@[simp] theorem F48 : env.fns 48 = true := by kernel_rfl
@[simp] theorem M48_0 : env.M 48 0 = [.pv 1] := rfl
@[simp] theorem M48_1 : env.M 48 1 = [] := rfl
theorem L48 : env.lib 48 = none := by show lookL 48 libs = _; simp [libs, lookL]
@[simp] theorem R48 : env.R 48 = [] := rfl
@[simp] theorem F49 : env.fns 49 = true := by kernel_rfl
@[simp] theorem M49_0 : env.M 49 0 = [.pv 8] := rfl
@[simp] theorem M49_1 : env.M 49 1 = [.pv 1] := rfl
theorem L49 : env.lib 49 = none := by show lookL 49 libs = _; simp [libs, lookL]
@[simp] theorem R49 : env.R 49 = [[.own 8]] := rfl
@[simp] theorem F50 : env.fns 50 = true := by kernel_rfl
@[simp] theorem M50_0 : env.M 50 0 = [.own 1] := rfl
@[simp] theorem M50_1 : env.M 50 1 = [] := rfl
theorem L50 : env.lib 50 = none := by show lookL 50 libs = _; simp [libs, lookL]
@[simp] theorem R50 : env.R 50 = [[.own 1]] := rfl
@[simp] theorem F54 : env.fns 54 = true := by kernel_rfl
@[simp] theorem M54_0 : env.M 54 0 = [.pv 1] := rfl
theorem L54 : env.lib 54 = none := by show lookL 54 libs = _; simp [libs, lookL]
@[simp] theorem R54 : env.R 54 = [] := rfl
@[simp] theorem F55 : env.fns 55 = true := by kernel_rfl
@[simp] theorem M55_0 : env.M 55 0 = [] := rfl
@[simp] theorem M55_1 : env.M 55 1 = [] := rfl
theorem L55 : env.lib 55 = none := by show lookL 55 libs = _; simp [libs, lookL]
@[simp] theorem R55 : env.R 55 = [] := rfl
@[simp] theorem F56 : env.fns 56 = true := by kernel_rfl
@[simp] theorem M56_0 : env.M 56 0 = [] := rfl
@[simp] theorem M56_1 : env.M 56 1 = [] := rfl
theorem L56 : env.lib 56 = none := by show lookL 56 libs = _; simp [libs, lookL]
@[simp] theorem R56 : env.R 56 = [] := rfl
@[simp] theorem F57 : env.fns 57 = true := by kernel_rfl
@[simp] theorem M57_0 : env.M 57 0 = [] := rfl
@[simp] theorem M57_1 : env.M 57 1 = [] := rfl
theorem L57 : env.lib 57 = none := by show lookL 57 libs = _; simp [libs, lookL]
@[simp] theorem R57 : env.R 57 = [] := rfl
@[simp] theorem F58 : env.fns 58 = true := by kernel_rfl
@[simp] theorem M58_0 : env.M 58 0 = [] := rfl
theorem L58 : env.lib 58 = none := by show lookL 58 libs = _; simp [libs, lookL]
@[simp] theorem R58 : env.R 58 = [] := rfl
@[simp] theorem F59 : env.fns 59 = true := by kernel_rfl
@[simp] theorem M59_0 : env.M 59 0 = [] := rfl
theorem L59 : env.lib 59 = none := by show lookL 59 libs = _; simp [libs, lookL]
@[simp] theorem R59 : env.R 59 = [] := rfl
@[simp] theorem F60 : env.fns 60 = true := by kernel_rfl
@[simp] theorem M60_0 : env.M 60 0 = [] := rfl
theorem L60 : env.lib 60 = none := by show lookL 60 libs = _; simp [libs, lookL]
@[simp] theorem R60 : env.R 60 = [] := rfl
@[simp] theorem F61 : env.fns 61 = true := by kernel_rfl
@[simp] theorem M61_0 : env.M 61 0 = [.auto] := rfl
@[simp] theorem M61_1 : env.M 61 1 = [] := rfl
theorem L61 : env.lib 61 = none := by show lookL 61 libs = _; simp [libs, lookL]
@[simp] theorem R61 : env.R 61 = [] := rfl
@[simp] theorem F62 : env.fns 62 = true := by kernel_rfl
@[simp] theorem M62_0 : env.M 62 0 = [.own 1] := rfl
@[simp] theorem M62_1 : env.M 62 1 = [] := rfl
@[simp] theorem M62_2 : env.M 62 2 = [.own 1] := rfl
theorem L62 : env.lib 62 = some (Lib.libInsert) := by show lookL 62 libs = _; simp [libs, lookL]
@[simp] theorem F63 : env.fns 63 = true := by kernel_rfl
@[simp] theorem M63_0 : env.M 63 0 = [.pv 1] := rfl
@[simp] theorem M63_1 : env.M 63 1 = [] := rfl
theorem L63 : env.lib 63 = none := by show lookL 63 libs = _; simp [libs, lookL]
@[simp] theorem R63 : env.R 63 = [] := rfl
@[simp] theorem F64 : env.fns 64 = true := by kernel_rfl
@[simp] theorem M64_0 : env.M 64 0 = [] := rfl
theorem L64 : env.lib 64 = none := by show lookL 64 libs = _; simp [libs, lookL]
@[simp] theorem R64 : env.R 64 = [] := rfl
@[simp] theorem F65 : env.fns 65 = true := by kernel_rfl
@[simp] theorem M65_0 : env.M 65 0 = [] := rfl
@[simp] theorem M65_1 : env.M 65 1 = [] := rfl
theorem L65 : env.lib 65 = none := by show lookL 65 libs = _; simp [libs, lookL]
@[simp] theorem R65 : env.R 65 = [] := rfl
@[simp] theorem F66 : env.fns 66 = true := by kernel_rfl
@[simp] theorem M66_0 : env.M 66 0 = [] := rfl
theorem L66 : env.lib 66 = none := by show lookL 66 libs = _; simp [libs, lookL]
@[simp] theorem R66 : env.R 66 = [] := rfl
@[simp] theorem F73 : env.fns 73 = true := by kernel_rfl
@[simp] theorem M73_0 : env.M 73 0 = [] := rfl
@[simp] theorem M73_1 : env.M 73 1 = [] := rfl
theorem L73 : env.lib 73 = none := by show lookL 73 libs = _; simp [libs, lookL]
@[simp] theorem R73 : env.R 73 = [] := rfl
@[simp] theorem F86 : env.fns 86 = true := by kernel_rfl
@[simp] theorem M86_0 : env.M 86 0 = [] := rfl
theorem L86 : env.lib 86 = none := by show lookL 86 libs = _; simp [libs, lookL]
@[simp] theorem R86 : env.R 86 = [] := rfl
@[simp] theorem F87 : env.fns 87 = true := by kernel_rfl
@[simp] theorem M87_0 : env.M 87 0 = [] := rfl
theorem L87 : env.lib 87 = none := by show lookL 87 libs = _; simp [libs, lookL]
@[simp] theorem R87 : env.R 87 = [] := rfl
@[simp] theorem F88 : env.fns 88 = true := by kernel_rfl
@[simp] theorem M88_0 : env.M 88 0 = [] := rfl
theorem L88 : env.lib 88 = none := by show lookL 88 libs = _; simp [libs, lookL]
@[simp] theorem R88 : env.R 88 = [] := rfl
@[simp] theorem F89 : env.fns 89 = true := by kernel_rfl
@[simp] theorem M89_0 : env.M 89 0 = [] := rfl
theorem L89 : env.lib 89 = none := by show lookL 89 libs = _; simp [libs, lookL]
@[simp] theorem R89 : env.R 89 = [] := rfl
@[simp] theorem F92 : env.fns 92 = true := by kernel_rfl
@[simp] theorem M92_0 : env.M 92 0 = [] := rfl
@[simp] theorem M92_1 : env.M 92 1 = [] := rfl
theorem L92 : env.lib 92 = none := by show lookL 92 libs = _; simp [libs, lookL]
@[simp] theorem R92 : env.R 92 = [] := rfl
@[simp] theorem P3_10 : env.plain 3 10 = false := by kernel_rfl
@[simp] theorem P4_11 : env.plain 4 11 = false := by kernel_rfl
@[simp] theorem P4_13 : env.plain 4 13 = false := by kernel_rfl
@[simp] theorem P4_18 : env.plain 4 18 = false := by kernel_rfl
@[simp] theorem P5_19 : env.plain 5 19 = false := by kernel_rfl
@[simp] theorem P5_24 : env.plain 5 24 = false := by kernel_rfl
@[simp] theorem P6_11 : env.plain 6 11 = false := by kernel_rfl
@[simp] theorem P6_15 : env.plain 6 15 = false := by kernel_rfl
@[simp] theorem P13_6 : env.plain 13 6 = true := by kernel_rfl
@[simp] theorem P15_5 : env.plain 15 5 = false := by kernel_rfl
@[simp] theorem P17_6 : env.plain 17 6 = true := by kernel_rfl
@[simp] theorem P19_6 : env.plain 19 6 = true := by kernel_rfl
@[simp] theorem P24_1 : env.plain 24 1 = false := by kernel_rfl
@[simp] theorem P26_6 : env.plain 26 6 = false := by kernel_rfl
@[simp] theorem P34_4 : env.plain 34 4 = false := by kernel_rfl
@[simp] theorem P39_1 : env.plain 39 1 = false := by kernel_rfl
@[simp] theorem H4_2 : env.hint 4 2 = some ⟨[(1, []), (5, []), (7, []), (8, []), (9, [])], [(1, []), (4, []), (5, []), (7, [])]⟩ := rfl
@[simp] abbrev hd4_2 (ys : List V1) (os : List Upd) : St := ⟨mkS 88 [(1, []), (5, []), (7, []), (8, []), (9, [])] ys, os⟩
@[simp] abbrev ex4_2 (ys : List V1) (os : List Upd) : St := ⟨mkS 88 [(1, []), (4, []), (5, []), (7, [])] ys, os⟩
@[simp] theorem H4_0 : env.hint 4 0 = some ⟨[(1, []), (5, []), (7, [])], [(4, [])]⟩ := rfl
@[simp] abbrev hd4_0 (ys : List V1) (os : List Upd) : St := ⟨mkS 88 [(1, []), (5, []), (7, [])] ys, os⟩
@[simp] abbrev ex4_0 (ys : List V1) (os : List Upd) : St := ⟨mkS 88 [(4, [])] ys, os⟩
@[simp] theorem H5_4 : env.hint 5 4 = some ⟨[(0, []), (1, []), (5, []), (7, []), (8, []), (9, []), (11, [])], [(0, []), (1, []), (4, []), (5, []), (7, [])]⟩ := rfl
@[simp] abbrev hd5_4 (ys : List V1) (os : List Upd) : St := ⟨mkS 100 [(0, []), (1, []), (5, []), (7, []), (8, []), (9, []), (11, [])] ys, os⟩
@[simp] abbrev ex5_4 (ys : List V1) (os : List Upd) : St := ⟨mkS 100 [(0, []), (1, []), (4, []), (5, []), (7, [])] ys, os⟩
@[simp] theorem H5_2 : env.hint 5 2 = some ⟨[(0, []), (1, []), (5, []), (7, []), (8, []), (9, []), (10, [])], [(0, []), (1, []), (4, []), (5, []), (7, []), (8, []), (9, [])]⟩ := rfl
@[simp] abbrev hd5_2 (ys : List V1) (os : List Upd) : St := ⟨mkS 100 [(0, []), (1, []), (5, []), (7, []), (8, []), (9, []), (10, [])] ys, os⟩
@[simp] abbrev ex5_2 (ys : List V1) (os : List Upd) : St := ⟨mkS 100 [(0, []), (1, []), (4, []), (5, []), (7, []), (8, []), (9, [])] ys, os⟩
@[simp] theorem H5_0 : env.hint 5 0 = some ⟨[(0, []), (1, []), (5, []), (7, [])], [(4, [])]⟩ := rfl
@[simp] abbrev hd5_0 (ys : List V1) (os : List Upd) : St := ⟨mkS 100 [(0, []), (1, []), (5, []), (7, [])] ys, os⟩
@[simp] abbrev ex5_0 (ys : List V1) (os : List Upd) : St := ⟨mkS 100 [(4, [])] ys, os⟩
@[simp] theorem H6_0 : env.hint 6 0 = some ⟨[(1, []), (2, []), (3, []), (9, []), (11, [])], [(2, []), (3, []), (8, []), (9, [])]⟩ := rfl
@[simp] abbrev hd6_0 (ys : List V1) (os : List Upd) : St := ⟨mkS 111 [(1, []), (2, []), (3, []), (9, []), (11, [])] ys, os⟩
@[simp] abbrev ex6_0 (ys : List V1) (os : List Upd) : St := ⟨mkS 111 [(2, []), (3, []), (8, []), (9, [])] ys, os⟩
@[simp] theorem H13_0 : env.hint 13 0 = some ⟨[(0, []), (1, []), (5, [])], [(4, [])]⟩ := rfl
@[simp] abbrev hd13_0 (ys : List V1) (os : List Upd) : St := ⟨mkS 26 [(0, []), (1, []), (5, [])] ys, os⟩
@[simp] abbrev ex13_0 (ys : List V1) (os : List Upd) : St := ⟨mkS 26 [(4, [])] ys, os⟩
@[simp] theorem H16_0 : env.hint 16 0 = some ⟨[(3, [.own 1]), (6, []), (7, []), (8, [])], [(3, [.own 1])]⟩ := rfl
@[simp] abbrev hd16_0 (ys : List V1) (os : List Upd) : St := ⟨mkS 22 [(3, [.own 1]), (6, []), (7, []), (8, [])] ys, os⟩
@[simp] abbrev ex16_0 (ys : List V1) (os : List Upd) : St := ⟨mkS 22 [(3, [.own 1])] ys, os⟩
@[simp] theorem H17_0 : env.hint 17 0 = some ⟨[(0, []), (1, []), (5, [])], [(4, [])]⟩ := rfl
@[simp] abbrev hd17_0 (ys : List V1) (os : List Upd) : St := ⟨mkS 26 [(0, []), (1, []), (5, [])] ys, os⟩
@[simp] abbrev ex17_0 (ys : List V1) (os : List Upd) : St := ⟨mkS 26 [(4, [])] ys, os⟩
@[simp] theorem H19_2 : env.hint 19 2 = some ⟨[(0, []), (3, []), (4, []), (5, []), (6, [])], [(0, []), (3, []), (4, []), (5, [])]⟩ := rfl
@[simp] abbrev hd19_2 (ys : List V1) (os : List Upd) : St := ⟨mkS 52 [(0, []), (3, []), (4, []), (5, []), (6, [])] ys, os⟩
@[simp] abbrev ex19_2 (ys : List V1) (os : List Upd) : St := ⟨mkS 52 [(0, []), (3, []), (4, []), (5, [])] ys, os⟩
@[simp] theorem H19_0 : env.hint 19 0 = some ⟨[(0, []), (3, [.own 1])], [(2, [])]⟩ := rfl
@[simp] abbrev hd19_0 (ys : List V1) (os : List Upd) : St := ⟨mkS 52 [(0, []), (3, [.own 1])] ys, os⟩
@[simp] abbrev ex19_0 (ys : List V1) (os : List Upd) : St := ⟨mkS 52 [(2, [])] ys, os⟩
@[simp] theorem H20_0 : env.hint 20 0 = some ⟨[(0, []), (1, []), (5, [])], [(4, [])]⟩ := rfl
@[simp] abbrev hd20_0 (ys : List V1) (os : List Upd) : St := ⟨mkS 18 [(0, []), (1, []), (5, [])] ys, os⟩
@[simp] abbrev ex20_0 (ys : List V1) (os : List Upd) : St := ⟨mkS 18 [(4, [])] ys, os⟩
@[simp] theorem H21_0 : env.hint 21 0 = some ⟨[(3, []), (6, []), (7, []), (8, [])], [(3, [])]⟩ := rfl
@[simp] abbrev hd21_0 (ys : List V1) (os : List Upd) : St := ⟨mkS 28 [(3, []), (6, []), (7, []), (8, [])] ys, os⟩
@[simp] abbrev ex21_0 (ys : List V1) (os : List Upd) : St := ⟨mkS 28 [(3, [])] ys, os⟩
@[simp] theorem H25_2 : env.hint 25 2 = some ⟨[(6, [.own 1]), (27, []), (28, []), (29, [])], [(6, [.own 1])]⟩ := rfl
@[simp] abbrev hd25_2 (ys : List V1) (os : List Upd) : St := ⟨mkS 43 [(6, [.own 1]), (27, []), (28, []), (29, [])] ys, os⟩
@[simp] abbrev ex25_2 (ys : List V1) (os : List Upd) : St := ⟨mkS 43 [(6, [.own 1])] ys, os⟩
@[simp] theorem H25_0 : env.hint 25 0 = some ⟨[(5, []), (6, [.own 1]), (13, []), (14, []), (15, [])], [(5, []), (6, [.own 1])]⟩ := rfl
@[simp] abbrev hd25_0 (ys : List V1) (os : List Upd) : St := ⟨mkS 43 [(5, []), (6, [.own 1]), (13, []), (14, []), (15, [])] ys, os⟩
@[simp] abbrev ex25_0 (ys : List V1) (os : List Upd) : St := ⟨mkS 43 [(5, []), (6, [.own 1])] ys, os⟩
@[simp] theorem H26_0 : env.hint 26 0 = some ⟨[(2, []), (3, []), (4, []), (5, [])], [(2, []), (4, [])]⟩ := rfl
@[simp] abbrev hd26_0 (ys : List V1) (os : List Upd) : St := ⟨mkS 32 [(2, []), (3, []), (4, []), (5, [])] ys, os⟩
@[simp] abbrev ex26_0 (ys : List V1) (os : List Upd) : St := ⟨mkS 32 [(2, []), (4, [])] ys, os⟩
@[simp] theorem H27_0 : env.hint 27 0 = some ⟨[(0, []), (1, []), (7, []), (8, [])], [(4, [])]⟩ := rfl
@[simp] abbrev hd27_0 (ys : List V1) (os : List Upd) : St := ⟨mkS 19 [(0, []), (1, []), (7, []), (8, [])] ys, os⟩
@[simp] abbrev ex27_0 (ys : List V1) (os : List Upd) : St := ⟨mkS 19 [(4, [])] ys, os⟩
@[simp] theorem H29_0 : env.hint 29 0 = some ⟨[(0, []), (1, []), (5, []), (6, [])], [(0, []), (5, [])]⟩ := rfl
@[simp] abbrev hd29_0 (ys : List V1) (os : List Upd) : St := ⟨mkS 42 [(0, []), (1, []), (5, []), (6, [])] ys, os⟩
@[simp] abbrev ex29_0 (ys : List V1) (os : List Upd) : St := ⟨mkS 42 [(0, []), (5, [])] ys, os⟩
@[simp] theorem H32_0 : env.hint 32 0 = some ⟨[(0, []), (3, [])], [(2, [])]⟩ := rfl
@[simp] abbrev hd32_0 (ys : List V1) (os : List Upd) : St := ⟨mkS 38 [(0, []), (3, [])] ys, os⟩
@[simp] abbrev ex32_0 (ys : List V1) (os : List Upd) : St := ⟨mkS 38 [(2, [])] ys, os⟩
@[simp] theorem H33_0 : env.hint 33 0 = some ⟨[(0, []), (3, [])], [(2, [])]⟩ := rfl
@[simp] abbrev hd33_0 (ys : List V1) (os : List Upd) : St := ⟨mkS 19 [(0, []), (3, [])] ys, os⟩
@[simp] abbrev ex33_0 (ys : List V1) (os : List Upd) : St := ⟨mkS 19 [(2, [])] ys, os⟩
@[simp] theorem H43_0 : env.hint 43 0 = some ⟨[(0, []), (1, []), (7, []), (8, [])], [(4, [])]⟩ := rfl
@[simp] abbrev hd43_0 (ys : List V1) (os : List Upd) : St := ⟨mkS 19 [(0, []), (1, []), (7, []), (8, [])] ys, os⟩
@[simp] abbrev ex43_0 (ys : List V1) (os : List Upd) : St := ⟨mkS 19 [(4, [])] ys, os⟩
@[simp] theorem H46_0 : env.hint 46 0 = some ⟨[(0, []), (1, []), (7, []), (8, [])], [(4, [])]⟩ := rfl
@[simp] abbrev hd46_0 (ys : List V1) (os : List Upd) : St := ⟨mkS 19 [(0, []), (1, []), (7, []), (8, [])] ys, os⟩
@[simp] abbrev ex46_0 (ys : List V1) (os : List Upd) : St := ⟨mkS 19 [(4, [])] ys, os⟩
@[simp] theorem H50_0 : env.hint 50 0 = some ⟨[(0, []), (1, []), (5, []), (6, [])], [(0, []), (5, [])]⟩ := rfl
@[simp] abbrev hd50_0 (ys : List V1) (os : List Upd) : St := ⟨mkS 42 [(0, []), (1, []), (5, []), (6, [])] ys, os⟩
@[simp] abbrev ex50_0 (ys : List V1) (os : List Upd) : St := ⟨mkS 42 [(0, []), (5, [])] ys, os⟩
@[simp] theorem H54_0 : env.hint 54 0 = some ⟨[(3, []), (6, []), (7, []), (8, [])], [(2, []), (3, [])]⟩ := rfl
@[simp] abbrev hd54_0 (ys : List V1) (os : List Upd) : St := ⟨mkS 18 [(3, []), (6, []), (7, []), (8, [])] ys, os⟩
@[simp] abbrev ex54_0 (ys : List V1) (os : List Upd) : St := ⟨mkS 18 [(2, []), (3, [])] ys, os⟩
@[simp] theorem H61_0 : env.hint 61 0 = some ⟨[(0, []), (1, []), (6, []), (7, []), (8, [])], [(0, []), (1, []), (6, []), (7, [])]⟩ := rfl
@[simp] abbrev hd61_0 (ys : List V1) (os : List Upd) : St := ⟨mkS 54 [(0, []), (1, []), (6, []), (7, []), (8, [])] ys, os⟩
@[simp] abbrev ex61_0 (ys : List V1) (os : List Upd) : St := ⟨mkS 54 [(0, []), (1, []), (6, []), (7, [])] ys, os⟩
end Go.E2.S
