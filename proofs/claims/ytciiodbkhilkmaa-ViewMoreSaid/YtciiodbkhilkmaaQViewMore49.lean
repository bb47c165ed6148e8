/- ViewMore, part 49: PItem. -/
import Derived.Sort.Walk0
import Derived.StillTailTactics
import Derived.Sort.Grow
import Derived.Lib.SliceRun
import Derived.Test.YtciiodbkhilkmaaProg
import Derived.Below
import Derived.Deep.Draws
import Derived.Deep.AppendLies
import Derived.Maps.AppendAt
import Derived.OwnWalk
import Derived.Laws.BytesArg
import Derived.Laws.MakeOwn
import Derived.Laws.OwnMore
import Derived.Deep.OwnRows
import Derived.Tactics
import Derived.Lib.ConvBytes
import Derived.Laws.Slices
import Derived.WalkKit
import Derived.KernelRfl
import Derived.RowKit3
import Derived.Deep.LoopGhost
import Derived.Deep.QuietTactic
import Derived.BigQuiet
import Derived.WideLaws
import Derived.Deep.DeepCutAuto
import Derived.Deep.CutBlock
import Derived.Deep.RegionHeld3
import Derived.Laws.Rows
import Derived.Lib.AppendStr
import Derived.ArgAppend
import Derived.Laws.IdiomCopy
import Derived.OrdersHeld
import Derived.Laws.BitsLemmas
import Derived.RowKit
import Derived.Shelf.SlGeneric
import Derived.Shelf.Sort.Plain
import Derived.Shelf.Slices.CompactS
import Derived.Shelf.Slices.In.SortNone
import Derived.Shelf.SlSortCmp.NoneTotal
import Derived.Ground.NamesProg
import Derived.Ground.SlsfProg
import Derived.Shelf.Abstract
import Derived.Laws.StructEq
import Derived.Lib.Strings
import Derived.MapKept
import Derived.Test.YtciiodbkhilkmaaQViewMore0
import Derived.Test.YtciiodbkhilkmaaQViewMore21
import Derived.Test.YtciiodbkhilkmaaQViewMore22
import Derived.Test.YtciiodbkhilkmaaQViewMore23
import Derived.Test.YtciiodbkhilkmaaQViewMore24
import Derived.Test.YtciiodbkhilkmaaQViewMore25
import Derived.Test.YtciiodbkhilkmaaQViewMore26
import Derived.Test.YtciiodbkhilkmaaQViewMore27
import Derived.Test.YtciiodbkhilkmaaQViewMore28
import Derived.Test.YtciiodbkhilkmaaQViewMore29
import Derived.Test.YtciiodbkhilkmaaQViewMore34
import Derived.Test.YtciiodbkhilkmaaQViewMore35
import Derived.Test.YtciiodbkhilkmaaQViewMore36
import Derived.Test.YtciiodbkhilkmaaQViewMore37
import Derived.Test.YtciiodbkhilkmaaQViewMore38
import Derived.Test.YtciiodbkhilkmaaQViewMore39
import Derived.Test.YtciiodbkhilkmaaQViewMore40
import Derived.Test.YtciiodbkhilkmaaQViewMore41
import Derived.Test.YtciiodbkhilkmaaQViewMore42
import Derived.Test.YtciiodbkhilkmaaQViewMore43
import Derived.Test.YtciiodbkhilkmaaQViewMore44
import Derived.Test.YtciiodbkhilkmaaQViewMore45
import Derived.Test.YtciiodbkhilkmaaQViewMore46
import Derived.Test.YtciiodbkhilkmaaQViewMore47
import Derived.Test.YtciiodbkhilkmaaQViewMore48
namespace Go.Proofs.Ytciiodbkhilkmaa.F
set_option linter.unusedVariables false
set_option linter.unusedSimpArgs false
open Go.RowKit Go.Proofs.YtciiodbkhilkmaaW.PrintWords Go.Proofs.YtciiodbkhilkmaaW.PrintLast Go.Proofs.YtciiodbkhilkmaaW.PrintMore
deriving instance DecidableEq for S24
deriving instance DecidableEq for S26
theorem rdI_get (l : List Item) (i : Nat) (h : i < l.length) : rd_T26 l (i : Int) = l[i] := by
  unfold rd_T26
  rw [List.getD_eq_getElem?_getD, Int.toNat_natCast, List.getElem?_eq_getElem h]
  rfl
def shortI (l : List Item) : Bool := decide (l.length ≤ 60) && l.all fun x => decide (x.f0.size ≤ 300) && (decide (x.f1.size ≤ 300) && decide (x.f3.size ≤ 300))
theorem shortI_l0 (l : List Item) (hl : l.length ≤ 60) : ∀ (n i : Nat), l.length = i + n → Ev (fun k => butteryref09_Short.l0 k l (i : Int)) ((l.drop i).all fun x => decide (x.f0.size ≤ 300) && (decide (x.f1.size ≤ 300) && decide (x.f3.size ≤ 300)))
  | 0, i, h => Ev.succ (by
    simp only [butteryref09_Short.l0]
    exact Ev.neg (by omega) (Ev.eq (Ev.const _) (by rw [List.drop_of_length_le (by omega)]; rfl)))
  | n + 1, i, h => Ev.succ (by
    simp only [butteryref09_Short.l0]
    have hi : i < l.length := by omega
    refine Ev.pos (by omega) (Ev.pos (by omega) ?_)
    rw [rdI_get _ _ hi, wrap_add i (by omega), List.drop_eq_getElem_cons hi, List.all_cons]
    by_cases c : l[i].f0.size ≤ 300
    · refine Ev.neg (by omega) ?_
      by_cases c1 : l[i].f1.size ≤ 300
      · refine Ev.neg (by omega) ?_
        by_cases c2 : l[i].f3.size ≤ 300
        · exact Ev.neg (by omega) (Ev.eq (shortI_l0 l hl n (i + 1) (by omega)) (by simp [c, c1, c2]))
        · exact Ev.pos (by omega) (Ev.eq (Ev.const _) (by simp [c2]))
      · exact Ev.pos (by omega) (Ev.eq (Ev.const _) (by simp [c1]))
    · exact Ev.pos (by omega) (Ev.eq (Ev.const _) (by simp [c])))
theorem shortI_ev (l : List Item) : Ev (fun k => butteryref09_Short.f k l) (shortI l) := by
  unfold butteryref09_Short.f shortI
  by_cases c : l.length ≤ 60
  · exact Ev.neg (by omega) (Ev.eq (shortI_l0 l c l.length 0 (by omega)) (by simp [c]))
  · exact Ev.pos (by omega) (Ev.eq (Ev.const _) (by simp [c]))
end Go.Proofs.Ytciiodbkhilkmaa.F
