import Derived.Shelf.SlGeneric
import Derived.Shelf.Sort.Plain
import Derived.Shelf.Slices.CompactS
import Derived.Shelf.Slices.In.SortNone
import Derived.Shelf.SlSortCmp.NoneTotal
import Derived.Ground.NamesProg
import Derived.Ground.SlsfProg
import Derived.Test.YtciiodbkhilkmaaProg
import Derived.Shelf.Abstract
import Derived.OrdersHeld
import Derived.Deep.RegionHeld3
import Derived.Laws.BitsLemmas
import Derived.RowKit
import Derived.Laws.StructEq
import Derived.Deep.LoopGhost
import Derived.WalkKit
import Derived.Deep.Upon
import Derived.Lib.Strings
import Derived.KernelRfl
import Derived.MapKept
import Derived.Below
import Derived.Calls
import Derived.Tactics
import Derived.Orders
import Derived.Sort.Walk0
import Derived.Lib.SliceRun
import Derived.Deep.Draws
import Derived.Deep.AppendLies
import Derived.Maps.AppendAt
import Derived.OwnWalk
import Derived.Laws.BytesArg
import Derived.Laws.MakeOwn
import Derived.Laws.OwnMore
import Derived.Deep.OwnRows
import Derived.Lib.ConvBytes
import Derived.Laws.Slices
import Derived.RowKit3
import Derived.Deep.QuietTactic
import Derived.BigQuiet
import Derived.WideLaws
import Derived.Deep.DeepCutAuto
import Derived.Deep.CutBlock
import Derived.Laws.Rows
import Derived.Lib.AppendStr
import Derived.ArgAppend
import Derived.Laws.IdiomCopy
import Derived.StillTailTactics
import Derived.Sort.Grow
import Derived.ProofKit
import Derived.OpenShut
import Derived.ShutString
import Derived.ChangeOld
import Derived.SizedLaws
import Derived.Carry
import Derived.Deep.MidRow
import Derived.Deep.AppendSrc
import Derived.Test.YtciiodbkhilkmaaQViewMore0
import Derived.Test.YtciiodbkhilkmaaQViewMoreE
import Derived.Test.YtciiodbkhilkmaaQViewMore21
import Derived.Test.YtciiodbkhilkmaaQViewMore22
import Derived.Test.YtciiodbkhilkmaaQViewMore23
import Derived.Test.YtciiodbkhilkmaaQViewMore24
import Derived.Test.YtciiodbkhilkmaaQViewMore25
import Derived.Test.YtciiodbkhilkmaaQViewMore26
import Derived.Test.YtciiodbkhilkmaaQViewMore27
import Derived.Test.YtciiodbkhilkmaaQViewMore28
import Derived.Test.YtciiodbkhilkmaaQViewMore29
import Derived.Test.YtciiodbkhilkmaaQViewMore30
import Derived.Test.YtciiodbkhilkmaaQViewMore31
import Derived.Test.YtciiodbkhilkmaaQViewMore33
import Derived.Test.YtciiodbkhilkmaaQViewMore34
import Derived.Test.YtciiodbkhilkmaaQViewMore35
import Derived.Test.YtciiodbkhilkmaaQViewMore36
import Derived.Test.YtciiodbkhilkmaaQViewMore37
import Derived.Test.YtciiodbkhilkmaaQViewMore38
import Derived.Test.YtciiodbkhilkmaaQViewMore39
import Derived.Test.YtciiodbkhilkmaaQViewMore40
import Derived.Test.YtciiodbkhilkmaaQViewMore41
import Derived.Test.YtciiodbkhilkmaaQViewMore42
import Derived.Test.YtciiodbkhilkmaaQViewMore43
import Derived.Test.YtciiodbkhilkmaaQViewMore44
import Derived.Test.YtciiodbkhilkmaaQViewMore45
import Derived.Test.YtciiodbkhilkmaaQViewMore46
import Derived.Test.YtciiodbkhilkmaaQViewMore47
import Derived.Test.YtciiodbkhilkmaaQViewMore48
import Derived.Test.YtciiodbkhilkmaaQViewMore49
import Derived.Test.YtciiodbkhilkmaaQViewMore50
import Derived.Test.YtciiodbkhilkmaaQViewMore51
import Derived.Test.YtciiodbkhilkmaaQViewMore52
import Derived.Test.YtciiodbkhilkmaaQViewMore53
import Derived.Test.YtciiodbkhilkmaaQViewMore54
import Derived.Test.YtciiodbkhilkmaaQViewMore55
import Derived.Test.YtciiodbkhilkmaaQViewMore58
/- ViewMore, part 59: EViewCut. -/
namespace Go.Eng.View
open Go Go.Eng Go.RowKit Go.Proofs Go.Proofs.Ytciiodbkhilkmaa.F Go.Proofs.YtciiodbkhilkmaaW.PrintWords
set_option linter.unusedVariables false
set_option linter.unusedSimpArgs false
set_option maxHeartbeats 2000000
set_option maxRecDepth 10000
theorem more_cut (l : List S26) (x : S26) (key fld : ByteArray) (hl : l.length ≤ 9223372036854775807) (h : shortI l = false ∨ 300 < x.f3.size) :
    Spec Try.prog 3 [.at (its l), .agg (encI x), .at (.str key), .at (.str fld)] (.one (.at (.pv (.bool true)))) := by
  have hshort := short_spec l hl
  generalize shortI l = b at hshort h
  by_cases h3 : 300 < x.f3.size <;> cases b
  all_goals first | (exfalso; simp [h3] at h; done) | skip
  all_goals
    apply spec_of hE Try.func3 rfl rfl (by simp) (e := .ret) (own := none) (key := 0) (ess := []) (us := [])
    case he => exact .inr rfl
    case hrun =>
      simp only [Try.f3]
      apply ARun.seq
      · apply ARun.region; repeat (first | exact .nil | apply RO.cons none (by simp [ty26]; (try simp (disch := omega) only [w64]); exact ⟨rfl, rfl⟩) (by simp) (by simp; rfl))
      apply ARun.seq
      · apply ARun.seq
        · apply ARun.region
          apply RO.cons (some (.one (.at (.pv (.bool true))))) (by simp [fn16]; exact ⟨rfl, rfl⟩) (by intro d hd; cases hd; exact awake_spec) (by simp; rfl)
          repeat (first | exact .nil | apply RO.cons none (by simp ; (try simp (disch := omega) only [w64]); exact ⟨rfl, rfl⟩) (by simp) (by simp; rfl))
        · apply ARun.cond false (by simp)
          exact .skip
      apply ARun.seqx
      · apply ARun.seq
        · apply ARun.region
          apply RO.cons none (by simp [ty22]; (try simp (disch := omega) only [w64]); exact ⟨rfl, rfl⟩) (by simp) (by simp; rfl)
          first
            | apply RO.cons (some (.one (.at (.pv (.bool true))))) (by simp [ty22, fn17]; exact ⟨rfl, rfl⟩) (by intro d hd; cases hd; exact hshort) (by simp; rfl)
            | apply RO.cons (some (.one (.at (.pv (.bool false))))) (by simp [ty22, fn17]; exact ⟨rfl, rfl⟩) (by intro d hd; cases hd; exact hshort) (by simp; rfl)
          repeat (first | exact .nil | apply RO.cons none (by simp [ty26, ty9, h3]; (try simp (disch := omega) only [w64]); exact ⟨rfl, rfl⟩) (by simp) (by simp; rfl))
        · apply ARun.cond true (by first | (simp [h3]; done) | (simp; omega))
          apply ARun.seq
          · apply ARun.region; repeat (first | exact .nil | apply RO.cons none (by simp ; (try simp (disch := omega) only [w64]); exact ⟨rfl, rfl⟩) (by simp) (by simp; rfl))
          · exact .ret
      · simp
    case hres =>
      simp [resFin, resRun, resVal, RM.bind, ret1, retAt, atPV, resRT]
end Go.Eng.View
