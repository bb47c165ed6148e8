import Derived.Shelf.SlGeneric
import Derived.Shelf.Sort.Plain
import Derived.Shelf.Slices.CompactS
import Derived.Shelf.Slices.In.SortNone
import Derived.Shelf.SlSortCmp.NoneTotal
import Derived.Ground.NamesProg
import Derived.Ground.SlsfProg
import Derived.Test.YtciiodbkhilkmaaProg
import Derived.Shelf.Abstract
import Derived.OrdersHeld
import Derived.Deep.RegionHeld3
import Derived.Laws.BitsLemmas
import Derived.RowKit
import Derived.Laws.StructEq
import Derived.Deep.LoopGhost
import Derived.WalkKit
import Derived.Deep.Upon
import Derived.Lib.Strings
import Derived.KernelRfl
import Derived.MapKept
import Derived.Below
import Derived.Calls
import Derived.Tactics
import Derived.Orders
import Derived.Sort.Walk0
import Derived.Lib.SliceRun
import Derived.Deep.Draws
import Derived.Deep.AppendLies
import Derived.Maps.AppendAt
import Derived.OwnWalk
import Derived.Laws.BytesArg
import Derived.Laws.MakeOwn
import Derived.Laws.OwnMore
import Derived.Deep.OwnRows
import Derived.Lib.ConvBytes
import Derived.Laws.Slices
import Derived.RowKit3
import Derived.Deep.QuietTactic
import Derived.BigQuiet
import Derived.WideLaws
import Derived.Deep.DeepCutAuto
import Derived.Deep.CutBlock
import Derived.Laws.Rows
import Derived.Lib.AppendStr
import Derived.ArgAppend
import Derived.Laws.IdiomCopy
import Derived.StillTailTactics
import Derived.Sort.Grow
import Derived.ProofKit
import Derived.OpenShut
import Derived.ShutString
import Derived.ChangeOld
import Derived.SizedLaws
import Derived.Carry
import Derived.Deep.MidRow
import Derived.Deep.AppendSrc
import Derived.Test.YtciiodbkhilkmaaQViewMore0
import Derived.Test.YtciiodbkhilkmaaQViewMoreE
import Derived.Test.YtciiodbkhilkmaaQViewMore21
import Derived.Test.YtciiodbkhilkmaaQViewMore22
import Derived.Test.YtciiodbkhilkmaaQViewMore23
import Derived.Test.YtciiodbkhilkmaaQViewMore24
import Derived.Test.YtciiodbkhilkmaaQViewMore25
import Derived.Test.YtciiodbkhilkmaaQViewMore26
import Derived.Test.YtciiodbkhilkmaaQViewMore27
import Derived.Test.YtciiodbkhilkmaaQViewMore28
import Derived.Test.YtciiodbkhilkmaaQViewMore29
import Derived.Test.YtciiodbkhilkmaaQViewMore30
import Derived.Test.YtciiodbkhilkmaaQViewMore31
import Derived.Test.YtciiodbkhilkmaaQViewMore33
import Derived.Test.YtciiodbkhilkmaaQViewMore34
import Derived.Test.YtciiodbkhilkmaaQViewMore35
import Derived.Test.YtciiodbkhilkmaaQViewMore36
import Derived.Test.YtciiodbkhilkmaaQViewMore37
import Derived.Test.YtciiodbkhilkmaaQViewMore38
import Derived.Test.YtciiodbkhilkmaaQViewMore39
import Derived.Test.YtciiodbkhilkmaaQViewMore40
import Derived.Test.YtciiodbkhilkmaaQViewMore41
import Derived.Test.YtciiodbkhilkmaaQViewMore42
import Derived.Test.YtciiodbkhilkmaaQViewMore43
import Derived.Test.YtciiodbkhilkmaaQViewMore44
import Derived.Test.YtciiodbkhilkmaaQViewMore45
import Derived.Test.YtciiodbkhilkmaaQViewMore46
import Derived.Test.YtciiodbkhilkmaaQViewMore47
import Derived.Test.YtciiodbkhilkmaaQViewMore48
import Derived.Test.YtciiodbkhilkmaaQViewMore49
import Derived.Test.YtciiodbkhilkmaaQViewMore50
import Derived.Test.YtciiodbkhilkmaaQViewMore51
import Derived.Test.YtciiodbkhilkmaaQViewMore52
import Derived.Test.YtciiodbkhilkmaaQViewMore53
import Derived.Test.YtciiodbkhilkmaaQViewMore54
import Derived.Test.YtciiodbkhilkmaaQViewMore55
import Derived.Test.YtciiodbkhilkmaaQViewMore58
import Derived.Test.YtciiodbkhilkmaaQViewMore59
import Derived.Test.YtciiodbkhilkmaaQViewMore60
import Derived.Test.YtciiodbkhilkmaaQViewMore61
import Derived.Test.YtciiodbkhilkmaaQViewMore62
import Derived.Test.YtciiodbkhilkmaaQViewMore63
import Derived.Test.YtciiodbkhilkmaaQViewMore64
/- ViewMore, part 65: EViewLaw. -/
namespace Go.Eng.View
open Go Go.Eng Go.RowKit Go.Proofs Go.Proofs.Ytciiodbkhilkmaa.F Go.Proofs.YtciiodbkhilkmaaW.PrintWords
set_option linter.unusedVariables false
set_option linter.unusedSimpArgs false
theorem sel_off {key fld : ByteArray} {x : S26} (h : x.f0 ≠ key ∨ x.f1 ≠ fld) (kd : Int) : sel key fld kd x = false := by
  unfold sel inField
  rcases h with h | h <;> simp [h]
theorem sel_on (x : S26) (kd : Int) : sel x.f0 x.f1 kd x = decide (x.f2 = kd) := by simp [sel, inField]
theorem field_off (l : List S26) {key fld : ByteArray} {x : S26} (h : x.f0 ≠ key ∨ x.f1 ≠ fld) : fieldV (l ++ [x]) key fld = fieldV l key fld := by
  unfold fieldV
  simp [List.filter_append, sel_off h]
theorem once_more (l : List ByteArray) (z : ByteArray) : onceL (l ++ [z]) = onceL (onceL l ++ [z]) := onceL_congr fun y => by simp [onceL_mem]
theorem field_add (l : List S26) (x : S26) : fieldV (l ++ [x]) x.f0 x.f1 = finV ((l.filter (sel x.f0 x.f1 1)).map (fun x => x.f3) ++ if x.f2 = 1 then [x.f3] else []) ((l.filter (sel x.f0 x.f1 2)).map (fun x => x.f3) ++ if x.f2 = 2 then [x.f3] else []) ((l.filter (sel x.f0 x.f1 3)).map (fun x => x.f4) ++ if x.f2 = 3 then [x.f4] else []) := by
  unfold fieldV
  have e : ∀ kd, ([x].filter (sel x.f0 x.f1 kd)) = if x.f2 = kd then [x] else [] := fun kd => by
    by_cases h : x.f2 = kd <;> simp [sel_on, h]
  simp only [List.filter_append, e, List.map_append]
  congr 2 <;> (try split) <;> (try rfl)
theorem law (l : List S26) (x : S26) (key fld : ByteArray) (hl : l.length ≤ 9223372036854775807) (hw : ∀ x ∈ l, WfI x) (hx : WfI x) :
    Spec Try.prog 3 [.at (its l), .agg (encI x), .at (.str key), .at (.str fld)] (.one (.at (.pv (.bool true)))) := by
  by_cases hs : shortI l = true
  case neg => exact more_cut l x key fld hl (.inl (by simpa using hs))
  by_cases h3 : 300 < x.f3.size
  · exact more_cut l x key fld hl (.inr h3)
  refine more_pre l x key fld hl hw hx hs h3 ?_
  have hl60 : l.length ≤ 60 := by unfold shortI at hs; simp at hs; exact hs.1
  have n1 := fieldV_len l key fld
  have n2 := fieldV_len (l ++ [x]) key fld
  rw [List.length_append, List.length_singleton] at n2
  by_cases hk : x.f0 ≠ key ∨ x.f1 ≠ fld
  · rw [field_off l hk]
    exact rest_off x key fld _ hk (by omega) (by omega)
  · obtain ⟨rfl, rfl⟩ : x.f0 = key ∧ x.f1 = fld := by
      constructor
      · exact Classical.byContradiction fun h => hk (.inl h)
      · exact Classical.byContradiction fun h => hk (.inr h)
    have hb := field_add l x
    by_cases k1 : x.f2 = 1
    · refine rest_kind1 x _ _ k1 ?_ ?_ ?_ (by omega) (by omega) (by omega)
      · rw [hb]; simp only [finV, fieldV, k1, if_true]; exact once_more _ _
      · rw [hb]; simp [finV, fieldV, k1]
      · rw [hb]; simp [finV, fieldV, k1]
    by_cases k2 : x.f2 = 2
    · refine rest_kind2 x _ _ k2 ?_ ?_ ?_ (by omega) (by omega) (by omega)
      · rw [hb]; simp only [finV, fieldV, k2, if_true]; exact once_more _ _
      · rw [hb]; simp [finV, fieldV, k2]
      · rw [hb]; simp [finV, fieldV, k2]
    refine rest_else x _ _ k1 k2 ?_ ?_ ?_ (by omega) (by omega)
    · rw [hb]; simp [finV, fieldV, k1]
    · rw [hb]; simp [finV, fieldV, k2]
    · by_cases k3 : x.f2 = 3
      · exact .inl k3
      · right
        rw [hb]
        simp [finV, fieldV, k1, k2, k3]
end Go.Eng.View
