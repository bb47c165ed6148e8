import Derived.Shelf.SlGeneric
import Derived.Shelf.Sort.Plain
import Derived.Shelf.Slices.CompactS
import Derived.Shelf.Slices.In.SortNone
import Derived.Shelf.SlSortCmp.NoneTotal
import Derived.Ground.NamesProg
import Derived.Ground.SlsfProg
import Derived.Test.YtciiodbkhilkmaaProg
import Derived.Shelf.Abstract
import Derived.OrdersHeld
import Derived.Deep.RegionHeld3
import Derived.Laws.BitsLemmas
import Derived.RowKit
import Derived.Laws.StructEq
import Derived.Deep.LoopGhost
import Derived.WalkKit
import Derived.Deep.Upon
import Derived.Lib.Strings
import Derived.KernelRfl
import Derived.MapKept
import Derived.Below
import Derived.Calls
import Derived.Tactics
import Derived.Orders
import Derived.Sort.Walk0
import Derived.Lib.SliceRun
import Derived.Deep.Draws
import Derived.Deep.AppendLies
import Derived.Maps.AppendAt
import Derived.OwnWalk
import Derived.Laws.BytesArg
import Derived.Laws.MakeOwn
import Derived.Laws.OwnMore
import Derived.Deep.OwnRows
import Derived.Lib.ConvBytes
import Derived.Laws.Slices
import Derived.RowKit3
import Derived.Deep.QuietTactic
import Derived.BigQuiet
import Derived.WideLaws
import Derived.Deep.DeepCutAuto
import Derived.Deep.CutBlock
import Derived.Laws.Rows
import Derived.Lib.AppendStr
import Derived.ArgAppend
import Derived.Laws.IdiomCopy
import Derived.StillTailTactics
import Derived.Sort.Grow
import Derived.ProofKit
import Derived.OpenShut
import Derived.ShutString
import Derived.ChangeOld
import Derived.SizedLaws
import Derived.Carry
import Derived.Deep.MidRow
import Derived.Deep.AppendSrc
import Derived.Test.YtciiodbkhilkmaaQViewMore0
import Derived.Test.YtciiodbkhilkmaaQViewMoreE
import Derived.Test.YtciiodbkhilkmaaQViewMore21
import Derived.Test.YtciiodbkhilkmaaQViewMore22
import Derived.Test.YtciiodbkhilkmaaQViewMore23
import Derived.Test.YtciiodbkhilkmaaQViewMore24
import Derived.Test.YtciiodbkhilkmaaQViewMore25
import Derived.Test.YtciiodbkhilkmaaQViewMore26
import Derived.Test.YtciiodbkhilkmaaQViewMore27
import Derived.Test.YtciiodbkhilkmaaQViewMore28
import Derived.Test.YtciiodbkhilkmaaQViewMore29
import Derived.Test.YtciiodbkhilkmaaQViewMore30
import Derived.Test.YtciiodbkhilkmaaQViewMore31
import Derived.Test.YtciiodbkhilkmaaQViewMore33
import Derived.Test.YtciiodbkhilkmaaQViewMore34
import Derived.Test.YtciiodbkhilkmaaQViewMore35
import Derived.Test.YtciiodbkhilkmaaQViewMore36
import Derived.Test.YtciiodbkhilkmaaQViewMore37
import Derived.Test.YtciiodbkhilkmaaQViewMore38
import Derived.Test.YtciiodbkhilkmaaQViewMore39
import Derived.Test.YtciiodbkhilkmaaQViewMore40
import Derived.Test.YtciiodbkhilkmaaQViewMore41
import Derived.Test.YtciiodbkhilkmaaQViewMore42
import Derived.Test.YtciiodbkhilkmaaQViewMore43
import Derived.Test.YtciiodbkhilkmaaQViewMore44
import Derived.Test.YtciiodbkhilkmaaQViewMore45
import Derived.Test.YtciiodbkhilkmaaQViewMore46
import Derived.Test.YtciiodbkhilkmaaQViewMore47
import Derived.Test.YtciiodbkhilkmaaQViewMore48
import Derived.Test.YtciiodbkhilkmaaQViewMore49
import Derived.Test.YtciiodbkhilkmaaQViewMore50
import Derived.Test.YtciiodbkhilkmaaQViewMore51
import Derived.Test.YtciiodbkhilkmaaQViewMore52
import Derived.Test.YtciiodbkhilkmaaQViewMore53
import Derived.Test.YtciiodbkhilkmaaQViewMore54
import Derived.Test.YtciiodbkhilkmaaQViewMore55
import Derived.Test.YtciiodbkhilkmaaQViewMore58
/- ViewMore, part 63: EViewR3. -/
namespace Go.Eng.View
open Go Go.Eng Go.RowKit Go.Proofs Go.Proofs.Ytciiodbkhilkmaa.F Go.Proofs.YtciiodbkhilkmaaW.PrintWords
set_option linter.unusedVariables false
set_option linter.unusedSimpArgs false
set_option maxHeartbeats 2000000
set_option maxRecDepth 10000
theorem rest_kind2 (x : S26) (va vb : Vl) (hk : x.f2 = 2) (e1 : vb.2.1 = onceL (va.2.1 ++ [x.f3])) (e2 : va.1 = vb.1) (e3 : va.2.2.1 = vb.2.2.1) (h1 : va.2.1.length < 1000) (h2 : va.1.length < 1000) (h3 : vb.2.1.length < 1000) : ARun Try.prog (envOf Try.prog) rest3 (s5 x x.f0 x.f1 va vb) .ret fin8 := by
  have ho := once_spec (va.2.1 ++ [x.f3]) (by simp; omega)
  rw [← e1] at ho
  have ho : Spec Try.prog 22 [.at (.list 1 (va.2.1.map encS ++ [[.str x.f3]]))] (.one (.at (.pv (sts vb.2.1)))) := by simpa [sts] using ho
  have hs1 := same_spec vb.2.1 vb.2.1 (by omega) (by omega)
  rw [show decide (vb.2.1 = vb.2.1) = true by simp] at hs1
  have hs2 := same_spec va.1 vb.1 (by omega) (by rw [← e2]; omega)
  rw [show decide (va.1 = vb.1) = true by simp [e2]] at hs2
  have hap1 : va.2.1.length * 17 ≤ 70368744177664 := by omega
  have hap2 : (va.2.1.length + 1) * 17 ≤ 70368744177664 := by omega
  apply ARun.to_norm [8] []
  · simp only [rest3, Try.f3, sndC, s5]
    apply ARun.seq
    · apply ARun.seq
      · apply ARun.region; repeat (first | exact .nil | apply RO.cons none (by simp [ty26, ty9]; (try simp (disch := omega) only [w64]); exact ⟨rfl, rfl⟩) (by simp) (by simp; rfl))
      · apply ARun.cond false (by first | (simp; done) | (simp; omega))
        exact .skip
    apply ARun.seq
    · apply ARun.seq
      · apply ARun.region; repeat (first | exact .nil | apply RO.cons none (by simp [ty26, ty3, hk]; (try simp (disch := omega) only [w64]); exact ⟨rfl, rfl⟩) (by simp) (by simp; rfl))
      · apply ARun.cond false (by first | (simp [hk]; done) | (simp; omega))
        exact .skip
    apply ARun.seqx
    · apply ARun.seq
      · apply ARun.region; repeat (first | exact .nil | apply RO.cons none (by simp [ty26, ty3, hk]; (try simp (disch := omega) only [w64]); exact ⟨rfl, rfl⟩) (by simp) (by simp; rfl))
      · apply ARun.cond true (by first | (simp [hk]; done) | (simp; omega))
        apply ARun.seq
        · apply ARun.drawn
          intro w0 S0 G0
          apply RD.snd hE
          · apply RD.cons none (by simp [ty31, ty29, ty2]; (try simp (disch := omega) only [w64]); exact ⟨rfl, rfl⟩) (by simp) (by simp; rfl) (by simp [RM.sees, ty31, ty29, ty2]; first | exact ⟨rfl, rfl⟩ | rfl) (by simp; rfl)
            apply RD.cons none (by simp [ty29]; (try simp (disch := omega) only [w64]); exact ⟨rfl, rfl⟩) (by simp) (by simp; rfl) (by simp [RM.sees, ty29]; first | exact ⟨rfl, rfl⟩ | rfl) (by simp; rfl)
            apply RD.cons none (by simp [ty29, ty9]; (try simp (disch := omega) only [w64]); exact ⟨rfl, rfl⟩) (by simp) (by simp; rfl) (by simp [RM.sees, ty29, ty9]; first | exact ⟨rfl, rfl⟩ | rfl) (by simp; rfl)
            apply RD.cons none (by simp [ty31, ty29, ty2]; (try simp (disch := omega) only [w64]); exact ⟨rfl, rfl⟩) (by simp) (by simp; rfl) (by simp [RM.sees, ty31, ty29, ty2]; first | exact ⟨rfl, rfl⟩ | rfl) (by simp; rfl)
            apply RD.cons none (by simp [ty29]; (try simp (disch := omega) only [w64]); exact ⟨rfl, rfl⟩) (by simp) (by simp; rfl) (by simp [RM.sees, ty29]; first | exact ⟨rfl, rfl⟩ | rfl) (by simp; rfl)
            apply RD.cons none (by simp [ty29, ty9, hap1]; (try simp (disch := omega) only [w64]); exact ⟨rfl, rfl⟩) (by simp) (by simp; rfl) (by simp [RM.sees, ty29, ty9, hap1]; first | exact ⟨rfl, rfl⟩ | rfl) (by simp; rfl)
            apply RD.cons none (by simp [ty26, ty9, ty3]; (try simp (disch := omega) only [w64]); exact ⟨rfl, rfl⟩) (by simp) (by simp; rfl) (by simp [RM.sees, ty26, ty9, ty3]; first | exact ⟨rfl, rfl⟩ | rfl) (by simp; rfl)
            apply RD.cons none (by simp [ty9]; (try simp (disch := omega) only [w64]); exact ⟨rfl, rfl⟩) (by simp) (by simp; rfl) (by simp [RM.sees, ty9]; first | exact ⟨rfl, rfl⟩ | rfl) (by simp; rfl)
            apply RD.cons none (by simp [ty29, ty9]; (try simp (disch := omega) only [w64]); exact ⟨rfl, rfl⟩) (by simp) (by simp; rfl) (by simp [RM.sees, ty29, ty9]; first | exact ⟨rfl, rfl⟩ | rfl) (by simp; rfl)
            apply RD.cons none (by simp [ty29, ty9, hap2]; (try simp (disch := omega) only [w64]); exact ⟨rfl, rfl⟩) (by simp) (by simp; rfl) (by simp [RM.sees, ty29, ty9, hap2]; first | exact ⟨rfl, rfl⟩ | rfl) (by simp; rfl)
            apply RD.cons (some (.one (.at (.pv (sts vb.2.1))))) (by simp [ty29, fn22]; exact ⟨rfl, rfl⟩) (by intro d hd; cases hd; exact ho) (by simp; rfl) (by simp [RM.sees, ty29, fn22]; first | exact ⟨rfl, rfl⟩ | rfl) (by simp; rfl)
            apply RD.cons (some (.one (.at (.pv (.bool true))))) (by simp [ty29, fn21]; exact ⟨rfl, rfl⟩) (by intro d hd; cases hd; exact hs1) (by simp; rfl) (by simp [RM.sees, ty29, fn21]; first | exact ⟨rfl, rfl⟩ | rfl) (by simp; rfl)
            apply RD.cons none (by simp ; (try simp (disch := omega) only [w64]); exact ⟨rfl, rfl⟩) (by simp) (by simp; rfl) (by simp [RM.sees]; first | exact ⟨rfl, rfl⟩ | rfl) (by simp; rfl)
            apply RD.cons none (by simp [ty31, ty29, ty2]; (try simp (disch := omega) only [w64]); exact ⟨rfl, rfl⟩) (by simp) (by simp; rfl) (by simp [RM.sees, ty31, ty29, ty2]; first | exact ⟨rfl, rfl⟩ | rfl) (by simp; rfl)
            apply RD.cons none (by simp [ty29]; (try simp (disch := omega) only [w64]); exact ⟨rfl, rfl⟩) (by simp) (by simp; rfl) (by simp [RM.sees, ty29]; first | exact ⟨rfl, rfl⟩ | rfl) (by simp; rfl)
            apply RD.cons none (by simp [ty31, ty29, ty2]; (try simp (disch := omega) only [w64]); exact ⟨rfl, rfl⟩) (by simp) (by simp; rfl) (by simp [RM.sees, ty31, ty29, ty2]; first | exact ⟨rfl, rfl⟩ | rfl) (by simp; rfl)
            apply RD.cons none (by simp [ty29]; (try simp (disch := omega) only [w64]); exact ⟨rfl, rfl⟩) (by simp) (by simp; rfl) (by simp [RM.sees, ty29]; first | exact ⟨rfl, rfl⟩ | rfl) (by simp; rfl)
            apply RD.cons (some (.one (.at (.pv (.bool true))))) (by simp [ty29, fn21]; exact ⟨rfl, rfl⟩) (by intro d hd; cases hd; exact hs2) (by simp; rfl) (by simp [RM.sees, ty29, fn21]; first | exact ⟨rfl, rfl⟩ | rfl) (by simp; rfl)
            apply RD.cons none (by simp ; (try simp (disch := omega) only [w64]); exact ⟨rfl, rfl⟩) (by simp) (by simp; rfl) (by simp [RM.sees]; first | exact ⟨rfl, rfl⟩ | rfl) (by simp; rfl)
            apply RD.cons none (by simp ; (try simp (disch := omega) only [w64]); exact ⟨rfl, rfl⟩) (by simp) (by simp; rfl) (by simp [RM.sees]; first | exact ⟨rfl, rfl⟩ | rfl) (by simp; rfl)
            apply RD.cons none (by simp [ty31, ty29, ty2]; (try simp (disch := omega) only [w64]); exact ⟨rfl, rfl⟩) (by simp) (by simp; rfl) (by simp [RM.sees, ty31, ty29, ty2]; first | exact ⟨rfl, rfl⟩ | rfl) (by simp; rfl)
            apply RD.cons none (by simp [ty2]; (try simp (disch := omega) only [w64]); exact ⟨rfl, rfl⟩) (by simp) (by simp; rfl) (by simp [RM.sees, ty2]; first | exact ⟨rfl, rfl⟩ | rfl) (by simp; rfl)
            apply RD.cons none (by simp [ty31, ty29, ty2]; (try simp (disch := omega) only [w64]); exact ⟨rfl, rfl⟩) (by simp) (by simp; rfl) (by simp [RM.sees, ty31, ty29, ty2]; first | exact ⟨rfl, rfl⟩ | rfl) (by simp; rfl)
            apply RD.cons none (by simp [ty2]; (try simp (disch := omega) only [w64]); exact ⟨rfl, rfl⟩) (by simp) (by simp; rfl) (by simp [RM.sees, ty2]; first | exact ⟨rfl, rfl⟩ | rfl) (by simp; rfl)
            apply RD.cons none (by simp [e3]; (try simp (disch := omega) only [w64]); exact ⟨rfl, rfl⟩) (by simp) (by simp; rfl) (by simp [RM.sees, e3]; first | exact ⟨rfl, rfl⟩ | rfl) (by simp; rfl)
            apply RD.cons none (by simp ; (try simp (disch := omega) only [w64]); exact ⟨rfl, rfl⟩) (by simp) (by simp; rfl) (by simp [RM.sees]; first | exact ⟨rfl, rfl⟩ | rfl) (by simp; rfl)
            apply RD.cons none (by simp ; (try simp (disch := omega) only [w64]); exact ⟨rfl, rfl⟩) (by simp) (by simp; rfl) (by simp [RM.sees]; first | exact ⟨rfl, rfl⟩ | rfl) (by simp; rfl)
            exact .nil
          · kernel_rfl
        · exact .ret
    · simp
  · rfl
end Go.Eng.View
