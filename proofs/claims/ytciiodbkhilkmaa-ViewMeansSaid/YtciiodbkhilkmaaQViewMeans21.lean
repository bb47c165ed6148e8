/- ViewMeans, part 21: PNorm. -/
import Derived.Lib.SliceRun
import Derived.Shelf.SlGeneric
import Derived.Shelf.Sort.Plain
import Derived.Shelf.Slices.CompactS
import Derived.Shelf.Slices.In.SortNone
import Derived.Shelf.SlSortCmp.NoneTotal
import Derived.Ground.NamesProg
import Derived.Ground.SlsfProg
import Derived.Test.YtciiodbkhilkmaaProg
import Derived.OrdersHeld
import Derived.Deep.RegionHeld3
import Derived.Laws.BitsLemmas
import Derived.RowKit
import Derived.Below
import Derived.Deep.Draws
import Derived.Deep.AppendLies
import Derived.Maps.AppendAt
import Derived.OwnWalk
import Derived.Laws.BytesArg
import Derived.Laws.MakeOwn
import Derived.Laws.OwnMore
import Derived.Deep.OwnRows
import Derived.Tactics
import Derived.Lib.ConvBytes
import Derived.Laws.Slices
import Derived.WalkKit
import Derived.KernelRfl
import Derived.RowKit3
import Derived.Deep.LoopGhost
import Derived.Deep.QuietTactic
import Derived.BigQuiet
import Derived.WideLaws
import Derived.Deep.DeepCutAuto
import Derived.Deep.CutBlock
import Derived.Laws.Rows
import Derived.Lib.AppendStr
import Derived.ArgAppend
import Derived.Laws.IdiomCopy
import Derived.Shelf.Abstract
import Derived.Sort.Walk0
import Derived.Laws.StructEq
import Derived.Lib.Strings
import Derived.MapKept
import Derived.StillTailTactics
import Derived.Sort.Grow
import Derived.Test.YtciiodbkhilkmaaQViewMeans0
import Derived.Test.YtciiodbkhilkmaaQViewMeans1
import Derived.Test.YtciiodbkhilkmaaQViewMeans2
import Derived.Test.YtciiodbkhilkmaaQViewMeans3
import Derived.Test.YtciiodbkhilkmaaQViewMeans4
import Derived.Test.YtciiodbkhilkmaaQViewMeans5
import Derived.Test.YtciiodbkhilkmaaQViewMeans6
import Derived.Test.YtciiodbkhilkmaaQViewMeans7
import Derived.Test.YtciiodbkhilkmaaQViewMeans8
import Derived.Test.YtciiodbkhilkmaaQViewMeans9
import Derived.Test.YtciiodbkhilkmaaQViewMeans10
import Derived.Test.YtciiodbkhilkmaaQViewMeans11
import Derived.Test.YtciiodbkhilkmaaQViewMeans12
import Derived.Test.YtciiodbkhilkmaaQViewMeans13
import Derived.Test.YtciiodbkhilkmaaQViewMeans14
import Derived.Test.YtciiodbkhilkmaaQViewMeans15
import Derived.Test.YtciiodbkhilkmaaQViewMeans16
import Derived.Test.YtciiodbkhilkmaaQViewMeans17
import Derived.Test.YtciiodbkhilkmaaQViewMeans18
import Derived.Test.YtciiodbkhilkmaaQViewMeans19
import Derived.Test.YtciiodbkhilkmaaQViewMeans20
namespace Go.Proofs.Ytciiodbkhilkmaa.F
set_option linter.unusedVariables false
set_option linter.unusedSimpArgs false
open Go.RowKit Go.Sort Go.Proofs.YtciiodbkhilkmaaW.PrintWords Go.Proofs.YtciiodbkhilkmaaW.PrintLast Go.Proofs.YtciiodbkhilkmaaW.PrintMore
abbrev Item := S26
def UpI (l : List Item) : Prop := l.Pairwise fun x y => cmpI x y < 0 ∧ x.f5 ≠ y.f5
theorem UpI.filter {m : List Item} (h : UpI m) (p : Item → Bool) : UpI (m.filter p) := List.Pairwise.filter _ h
end Go.Proofs.Ytciiodbkhilkmaa.F
