import Derived.Shelf.SlGeneric
import Derived.Shelf.Sort.Plain
import Derived.Shelf.Slices.CompactS
import Derived.Shelf.Slices.In.SortNone
import Derived.Shelf.SlSortCmp.NoneTotal
import Derived.Ground.NamesProg
import Derived.Ground.SlsfProg
import Derived.Test.YtciiodbkhilkmaaProg
import Derived.Shelf.Abstract
import Derived.OrdersHeld
import Derived.Deep.RegionHeld3
import Derived.Laws.BitsLemmas
import Derived.RowKit
import Derived.Laws.StructEq
import Derived.Deep.LoopGhost
import Derived.WalkKit
import Derived.Deep.Upon
import Derived.Lib.Strings
import Derived.KernelRfl
import Derived.MapKept
import Derived.Below
import Derived.Calls
import Derived.Tactics
import Derived.Orders
import Derived.Sort.Walk0
import Derived.Lib.SliceRun
import Derived.Deep.Draws
import Derived.Deep.AppendLies
import Derived.Maps.AppendAt
import Derived.OwnWalk
import Derived.Laws.BytesArg
import Derived.Laws.MakeOwn
import Derived.Laws.OwnMore
import Derived.Deep.OwnRows
import Derived.Lib.ConvBytes
import Derived.Laws.Slices
import Derived.RowKit3
import Derived.Deep.QuietTactic
import Derived.BigQuiet
import Derived.WideLaws
import Derived.Deep.DeepCutAuto
import Derived.Deep.CutBlock
import Derived.Laws.Rows
import Derived.Lib.AppendStr
import Derived.ArgAppend
import Derived.Laws.IdiomCopy
import Derived.StillTailTactics
import Derived.Sort.Grow
import Derived.ProofKit
import Derived.OpenShut
import Derived.ShutString
import Derived.ChangeOld
import Derived.SizedLaws
import Derived.Carry
import Derived.Deep.MidRow
import Derived.Deep.AppendSrc
import Derived.Test.YtciiodbkhilkmaaQViewMore0
import Derived.Test.YtciiodbkhilkmaaQViewMoreE
import Derived.Test.YtciiodbkhilkmaaQViewMore21
import Derived.Test.YtciiodbkhilkmaaQViewMore22
import Derived.Test.YtciiodbkhilkmaaQViewMore23
import Derived.Test.YtciiodbkhilkmaaQViewMore24
import Derived.Test.YtciiodbkhilkmaaQViewMore25
import Derived.Test.YtciiodbkhilkmaaQViewMore26
import Derived.Test.YtciiodbkhilkmaaQViewMore27
import Derived.Test.YtciiodbkhilkmaaQViewMore28
import Derived.Test.YtciiodbkhilkmaaQViewMore29
import Derived.Test.YtciiodbkhilkmaaQViewMore30
import Derived.Test.YtciiodbkhilkmaaQViewMore31
import Derived.Test.YtciiodbkhilkmaaQViewMore33
import Derived.Test.YtciiodbkhilkmaaQViewMore34
import Derived.Test.YtciiodbkhilkmaaQViewMore35
import Derived.Test.YtciiodbkhilkmaaQViewMore36
import Derived.Test.YtciiodbkhilkmaaQViewMore37
import Derived.Test.YtciiodbkhilkmaaQViewMore38
import Derived.Test.YtciiodbkhilkmaaQViewMore39
import Derived.Test.YtciiodbkhilkmaaQViewMore40
import Derived.Test.YtciiodbkhilkmaaQViewMore41
import Derived.Test.YtciiodbkhilkmaaQViewMore42
import Derived.Test.YtciiodbkhilkmaaQViewMore43
import Derived.Test.YtciiodbkhilkmaaQViewMore44
import Derived.Test.YtciiodbkhilkmaaQViewMore45
import Derived.Test.YtciiodbkhilkmaaQViewMore46
import Derived.Test.YtciiodbkhilkmaaQViewMore47
import Derived.Test.YtciiodbkhilkmaaQViewMore48
import Derived.Test.YtciiodbkhilkmaaQViewMore49
import Derived.Test.YtciiodbkhilkmaaQViewMore50
import Derived.Test.YtciiodbkhilkmaaQViewMore51
import Derived.Test.YtciiodbkhilkmaaQViewMore52
import Derived.Test.YtciiodbkhilkmaaQViewMore53
import Derived.Test.YtciiodbkhilkmaaQViewMore54
import Derived.Test.YtciiodbkhilkmaaQViewMore55
/- ViewMore, part 58: EViewRest0. -/
namespace Go.Eng.View
open Go Go.Eng Go.RowKit Go.Proofs Go.Proofs.Ytciiodbkhilkmaa.F Go.Proofs.YtciiodbkhilkmaaW.PrintWords
set_option linter.unusedVariables false
set_option linter.unusedSimpArgs false
set_option maxHeartbeats 2000000
set_option maxRecDepth 10000
theorem hE : EnvOk Try.prog (envOf Try.prog) := envOf_ok (P := Try.prog) (by kernel_rfl)
theorem ty2 : tyOf Try.prog 2 = some { agg := false, size := 1, bytes := 8, elem := 0, fields := [], zero := [.pv (.int .i64 0)], es := [0], str := false, bool := false, int := some .i64 } := by kernel_rfl
theorem ty3 : tyOf Try.prog 3 = some { agg := false, size := 1, bytes := 8, elem := 0, fields := [], zero := [.pv (.int .i64 0)], es := [0], str := false, bool := false, int := some .i64 } := by kernel_rfl
theorem ty9 : tyOf Try.prog 9 = some { agg := false, size := 1, bytes := 16, elem := 0, fields := [], zero := [.pv (.str ⟨#[]⟩)], es := [0], str := true, bool := false, int := none } := by kernel_rfl
theorem ty22 : tyOf Try.prog 22 = some { agg := false, size := 1, bytes := 24, elem := 26, fields := [], zero := [.nil], es := [8], str := false, bool := false, int := none } := by kernel_rfl
theorem ty26 : tyOf Try.prog 26 = some { agg := true, size := 8, bytes := 88, elem := 0, fields := [(0, 9), (1, 9), (2, 3), (3, 9), (4, 2), (5, 24)], zero := [.pv (.str ⟨#[]⟩), .pv (.str ⟨#[]⟩), .pv (.int .i64 0), .pv (.str ⟨#[]⟩), .pv (.int .i64 0), .pv (.int .i64 0), .pv (.int .i64 0), .pv (.int .i64 0)], es := [0, 0, 0, 0, 0, 0, 0, 0], str := false, bool := false, int := none } := by kernel_rfl
theorem ty29 : tyOf Try.prog 29 = some { agg := false, size := 1, bytes := 24, elem := 9, fields := [], zero := [.nil], es := [1], str := false, bool := false, int := none } := by kernel_rfl
theorem ty31 : tyOf Try.prog 31 = some { agg := true, size := 4, bytes := 64, elem := 0, fields := [(0, 29), (1, 29), (2, 2), (3, 4)], zero := [.nil, .nil, .pv (.int .i64 0), .pv (.bool false)], es := [1, 1, 0, 0], str := false, bool := false, int := none } := by kernel_rfl
theorem fn16 : fnOf Try.prog 16 = true := by kernel_rfl
theorem fn17 : fnOf Try.prog 17 = true := by kernel_rfl
theorem fn18 : fnOf Try.prog 18 = true := by kernel_rfl
theorem fn19 : fnOf Try.prog 19 = true := by kernel_rfl
theorem fn20 : fnOf Try.prog 20 = true := by kernel_rfl
theorem fn21 : fnOf Try.prog 21 = true := by kernel_rfl
theorem fn22 : fnOf Try.prog 22 = true := by kernel_rfl
theorem tl (a b : ByteArray) : (a.toList == b.toList) = decide (a = b) := by
  rw [Bool.eq_iff_iff]
  simp [toList_eq]
def sndC : Code → Code
  | .seq _ y => y
  | c => c
noncomputable def rest3 : Code := match Try.f3.body with
  | some c => sndC (sndC (sndC (sndC c)))
  | none => .skip
def s5 (x : S26) (key fld : ByteArray) (va vb : Vl) : St := { slots := [.any, .any, .one (.at (.pv (.str key))), .one (.at (.pv (.str fld))), .any, .one (.at (.ptr 5 0 0)), .any, .any, .any, .one (.at (.ptr 9 0 0)), .one (.at (.ptr 10 0 0)), .any, .any, .any, .any, .any, .any, .any, .any, .any, .any, .any, .any, .any, .any, .any, .any, .any, .any, .any, .any, .any, .any, .any, .any, .any, .any, .any, .any, .any, .any, .any, .any, .any, .any, .any, .any, .any, .any, .any, .any, .any, .any, .any, .any, .any, .any, .any, .any, .any, .any, .any, .any, .any, .any, .any, .any, .any, .any, .any, .any, .any, .any, .any, .any, .any, .any, .any, .any, .any, .any, .any, .any, .any, .any, .any, .any, .any, .any, .any, .any, .any, .any, .any, .any, .any, .any, .any, .any, .any, .any, .any, .any, .any, .any, .any, .any, .any, .any, .any, .any, .any, .any, .any, .any, .any, .any, .any, .any, .any, .any, .any, .any, .any, .any, .any, .any], obs := [(5, 0, some (.blk ((encI x).map .pv))), (9, 0, some (.blk ((encV va).map .pv))), (10, 0, some (.blk ((encV vb).map .pv)))] }
def fin8 : St := { slots := [.any, .any, .any, .any, .any, .any, .any, .any, .one (.at (.pv (.bool true))), .any, .any, .any, .any, .any, .any, .any, .any, .any, .any, .any, .any, .any, .any, .any, .any, .any, .any, .any, .any, .any, .any, .any, .any, .any, .any, .any, .any, .any, .any, .any, .any, .any, .any, .any, .any, .any, .any, .any, .any, .any, .any, .any, .any, .any, .any, .any, .any, .any, .any, .any, .any, .any, .any, .any, .any, .any, .any, .any, .any, .any, .any, .any, .any, .any, .any, .any, .any, .any, .any, .any, .any, .any, .any, .any, .any, .any, .any, .any, .any, .any, .any, .any, .any, .any, .any, .any, .any, .any, .any, .any, .any, .any, .any, .any, .any, .any, .any, .any, .any, .any, .any, .any, .any, .any, .any, .any, .any, .any, .any, .any, .any, .any, .any, .any, .any, .any, .any], obs := [] }
end Go.Eng.View
