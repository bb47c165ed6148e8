import Derived.Shelf.SlGeneric
import Derived.Shelf.Sort.Plain
import Derived.Shelf.Slices.CompactS
import Derived.Shelf.Slices.In.SortNone
import Derived.Shelf.SlSortCmp.NoneTotal
import Derived.Ground.NamesProg
import Derived.Ground.SlsfProg
import Derived.Test.YtciiodbkhilkmaaProg
import Derived.Shelf.Abstract
import Derived.OrdersHeld
import Derived.Deep.RegionHeld3
import Derived.Laws.BitsLemmas
import Derived.RowKit
import Derived.Laws.StructEq
import Derived.Deep.LoopGhost
import Derived.WalkKit
import Derived.Deep.Upon
import Derived.Lib.Strings
import Derived.KernelRfl
import Derived.MapKept
import Derived.Below
import Derived.Calls
import Derived.Tactics
import Derived.Orders
import Derived.Sort.Walk0
import Derived.Lib.SliceRun
import Derived.Deep.Draws
import Derived.Deep.AppendLies
import Derived.Maps.AppendAt
import Derived.OwnWalk
import Derived.Laws.BytesArg
import Derived.Laws.MakeOwn
import Derived.Laws.OwnMore
import Derived.Deep.OwnRows
import Derived.Lib.ConvBytes
import Derived.Laws.Slices
import Derived.RowKit3
import Derived.Deep.QuietTactic
import Derived.BigQuiet
import Derived.WideLaws
import Derived.Deep.DeepCutAuto
import Derived.Deep.CutBlock
import Derived.Laws.Rows
import Derived.Lib.AppendStr
import Derived.ArgAppend
import Derived.Laws.IdiomCopy
import Derived.StillTailTactics
import Derived.Sort.Grow
import Derived.ProofKit
import Derived.OpenShut
import Derived.ShutString
import Derived.ChangeOld
import Derived.SizedLaws
import Derived.Carry
import Derived.Deep.MidRow
import Derived.Deep.AppendSrc
import Derived.Test.YtciiodbkhilkmaaQViewMore0
import Derived.Test.YtciiodbkhilkmaaQViewMoreE
import Derived.Test.YtciiodbkhilkmaaQViewMore21
import Derived.Test.YtciiodbkhilkmaaQViewMore22
import Derived.Test.YtciiodbkhilkmaaQViewMore23
import Derived.Test.YtciiodbkhilkmaaQViewMore24
import Derived.Test.YtciiodbkhilkmaaQViewMore25
import Derived.Test.YtciiodbkhilkmaaQViewMore26
import Derived.Test.YtciiodbkhilkmaaQViewMore27
import Derived.Test.YtciiodbkhilkmaaQViewMore28
import Derived.Test.YtciiodbkhilkmaaQViewMore29
import Derived.Test.YtciiodbkhilkmaaQViewMore30
import Derived.Test.YtciiodbkhilkmaaQViewMore31
import Derived.Test.YtciiodbkhilkmaaQViewMore33
import Derived.Test.YtciiodbkhilkmaaQViewMore34
import Derived.Test.YtciiodbkhilkmaaQViewMore35
import Derived.Test.YtciiodbkhilkmaaQViewMore36
import Derived.Test.YtciiodbkhilkmaaQViewMore37
import Derived.Test.YtciiodbkhilkmaaQViewMore38
import Derived.Test.YtciiodbkhilkmaaQViewMore39
import Derived.Test.YtciiodbkhilkmaaQViewMore40
import Derived.Test.YtciiodbkhilkmaaQViewMore41
import Derived.Test.YtciiodbkhilkmaaQViewMore42
import Derived.Test.YtciiodbkhilkmaaQViewMore43
import Derived.Test.YtciiodbkhilkmaaQViewMore44
import Derived.Test.YtciiodbkhilkmaaQViewMore45
import Derived.Test.YtciiodbkhilkmaaQViewMore46
import Derived.Test.YtciiodbkhilkmaaQViewMore47
import Derived.Test.YtciiodbkhilkmaaQViewMore48
import Derived.Test.YtciiodbkhilkmaaQViewMore49
import Derived.Test.YtciiodbkhilkmaaQViewMore50
import Derived.Test.YtciiodbkhilkmaaQViewMore51
import Derived.Test.YtciiodbkhilkmaaQViewMore52
import Derived.Test.YtciiodbkhilkmaaQViewMore53
import Derived.Test.YtciiodbkhilkmaaQViewMore54
import Derived.Test.YtciiodbkhilkmaaQViewMore55
import Derived.Test.YtciiodbkhilkmaaQViewMore58
/- ViewMore, part 64: EViewR4. -/
namespace Go.Eng.View
open Go Go.Eng Go.RowKit Go.Proofs Go.Proofs.Ytciiodbkhilkmaa.F Go.Proofs.YtciiodbkhilkmaaW.PrintWords
set_option linter.unusedVariables false
set_option linter.unusedSimpArgs false
set_option maxHeartbeats 2000000
set_option maxRecDepth 10000
theorem rest_else (x : S26) (va vb : Vl) (k1 : x.f2 ≠ 1) (k2 : x.f2 ≠ 2) (e1 : va.1 = vb.1) (e2 : va.2.1 = vb.2.1) (e3 : x.f2 = 3 ∨ va = vb) (h1 : va.1.length < 1000) (h2 : va.2.1.length < 1000) : ARun Try.prog (envOf Try.prog) rest3 (s5 x x.f0 x.f1 va vb) .ret fin8 := by
  have hs1 := same_spec va.1 vb.1 (by omega) (by rw [← e1]; omega)
  rw [show decide (va.1 = vb.1) = true by simp [e1]] at hs1
  have hs2 := same_spec va.2.1 vb.2.1 (by omega) (by rw [← e2]; omega)
  rw [show decide (va.2.1 = vb.2.1) = true by simp [e2]] at hs2
  have hv := vsame_spec va vb (by omega) (by omega) (by rw [← e1]; omega) (by rw [← e2]; omega)
  by_cases k3 : x.f2 = 3
  all_goals
    apply ARun.to_norm [8] []
    · simp only [rest3, Try.f3, sndC, s5]
      apply ARun.seq
      · apply ARun.seq
        · apply ARun.region; repeat (first | exact .nil | apply RO.cons none (by simp [ty26, ty9]; (try simp (disch := omega) only [w64]); exact ⟨rfl, rfl⟩) (by simp) (by simp; rfl))
        · apply ARun.cond false (by first | (simp; done) | (simp; omega))
          exact .skip
      apply ARun.seq
      · apply ARun.seq
        · apply ARun.region; repeat (first | exact .nil | apply RO.cons none (by simp [ty26, ty3, k1, k2]; (try simp (disch := omega) only [w64]); exact ⟨rfl, rfl⟩) (by simp) (by simp; rfl))
        · apply ARun.cond false (by first | (simp [k1, k2]; done) | (simp [k1, k2, k3]; done))
          exact .skip
      apply ARun.seq
      · apply ARun.seq
        · apply ARun.region; repeat (first | exact .nil | apply RO.cons none (by simp [ty26, ty3, k1, k2]; (try simp (disch := omega) only [w64]); exact ⟨rfl, rfl⟩) (by simp) (by simp; rfl))
        · apply ARun.cond false (by first | (simp [k1, k2]; done) | (simp [k1, k2, k3]; done))
          exact .skip
      apply ARun.seq
      · apply ARun.region
        apply RO.cons none (by simp [ty31, ty29, ty2]; (try simp (disch := omega) only [w64]); exact ⟨rfl, rfl⟩) (by simp) (by simp; rfl)
        apply RO.cons none (by simp [ty29]; (try simp (disch := omega) only [w64]); exact ⟨rfl, rfl⟩) (by simp) (by simp; rfl)
        apply RO.cons none (by simp [ty31, ty29, ty2]; (try simp (disch := omega) only [w64]); exact ⟨rfl, rfl⟩) (by simp) (by simp; rfl)
        apply RO.cons none (by simp [ty29]; (try simp (disch := omega) only [w64]); exact ⟨rfl, rfl⟩) (by simp) (by simp; rfl)
        apply RO.cons (some (.one (.at (.pv (.bool true))))) (by simp [ty29, fn21]; exact ⟨rfl, rfl⟩) (by intro d hd; cases hd; exact hs1) (by simp; rfl)
        apply RO.cons none (by simp ; (try simp (disch := omega) only [w64]); exact ⟨rfl, rfl⟩) (by simp) (by simp; rfl)
        apply RO.cons none (by simp [ty31, ty29, ty2]; (try simp (disch := omega) only [w64]); exact ⟨rfl, rfl⟩) (by simp) (by simp; rfl)
        apply RO.cons none (by simp [ty29]; (try simp (disch := omega) only [w64]); exact ⟨rfl, rfl⟩) (by simp) (by simp; rfl)
        apply RO.cons none (by simp [ty31, ty29, ty2]; (try simp (disch := omega) only [w64]); exact ⟨rfl, rfl⟩) (by simp) (by simp; rfl)
        apply RO.cons none (by simp [ty29]; (try simp (disch := omega) only [w64]); exact ⟨rfl, rfl⟩) (by simp) (by simp; rfl)
        apply RO.cons (some (.one (.at (.pv (.bool true))))) (by simp [ty29, fn21]; exact ⟨rfl, rfl⟩) (by intro d hd; cases hd; exact hs2) (by simp; rfl)
        apply RO.cons none (by simp ; (try simp (disch := omega) only [w64]); exact ⟨rfl, rfl⟩) (by simp) (by simp; rfl)
        apply RO.cons none (by simp ; (try simp (disch := omega) only [w64]); exact ⟨rfl, rfl⟩) (by simp) (by simp; rfl)
        apply RO.cons none (by simp [ty26, ty9, ty3]; (try simp (disch := omega) only [w64]); exact ⟨rfl, rfl⟩) (by simp) (by simp; rfl)
        apply RO.cons none (by simp [ty3]; (try simp (disch := omega) only [w64]); exact ⟨rfl, rfl⟩) (by simp) (by simp; rfl)
        apply RO.cons none (by simp [k3]; (try simp (disch := omega) only [w64]); exact ⟨rfl, rfl⟩) (by simp) (by simp; rfl)
        apply RO.cons none (by simp ; (try simp (disch := omega) only [w64]); exact ⟨rfl, rfl⟩) (by simp) (by simp; rfl)
        first
          | (apply RO.cons none (by simp [k3]; (try simp (disch := omega) only [w64]); exact ⟨rfl, rfl⟩) (by simp) (by simp; rfl)
             apply RO.cons none (by simp [k3]; (try simp (disch := omega) only [w64]); exact ⟨rfl, rfl⟩) (by simp) (by simp; rfl)
             apply RO.cons none (by simp [k3]; (try simp (disch := omega) only [w64]); exact ⟨rfl, rfl⟩) (by simp) (by simp; rfl)
             apply RO.cons none (by simp [k3]; (try simp (disch := omega) only [w64]); exact ⟨rfl, rfl⟩) (by simp) (by simp; rfl)
             apply RO.cons none (by simp [k3]; (try simp (disch := omega) only [w64]); exact ⟨rfl, rfl⟩) (by simp) (by simp; rfl)
             apply RO.cons none (by simp [k3]; (try simp (disch := omega) only [w64]); exact ⟨rfl, rfl⟩) (by simp) (by simp; rfl)
             exact .nil)
          | (apply RO.cons none (by simp [ty31, ty29, ty2, k3]; (try simp (disch := omega) only [w64]); exact ⟨rfl, rfl⟩) (by simp) (by simp; rfl)
             apply RO.cons none (by simp [ty31, ty29, ty2, k3]; (try simp (disch := omega) only [w64]); exact ⟨rfl, rfl⟩) (by simp) (by simp; rfl)
             have hv' : Spec Try.prog 20 [.agg (encV va), .agg (encV vb)] (.one (.at (.pv (.bool true)))) := by
               rw [show decide (va = vb) = true by rcases e3 with h | h <;> simp_all] at hv
               exact hv
             apply RO.cons (some (.one (.at (.pv (.bool true))))) (by simp [ty31, fn20, k3]; exact ⟨rfl, rfl⟩) (by intro d hd; cases hd; exact hv') (by simp; rfl)
             repeat (first | exact .nil | apply RO.cons none (by simp [k3]; (try simp (disch := omega) only [w64]); exact ⟨rfl, rfl⟩) (by simp) (by simp; rfl)))
      · exact .ret
    · rfl
end Go.Eng.View
