/- ViewMore, part 47: PZone. -/
import Derived.Sort.Walk0
import Derived.Lib.SliceRun
import Derived.Test.YtciiodbkhilkmaaProg
import Derived.Below
import Derived.Deep.Draws
import Derived.Deep.AppendLies
import Derived.Maps.AppendAt
import Derived.OwnWalk
import Derived.Laws.BytesArg
import Derived.Laws.MakeOwn
import Derived.Laws.OwnMore
import Derived.Deep.OwnRows
import Derived.Tactics
import Derived.Lib.ConvBytes
import Derived.Laws.Slices
import Derived.WalkKit
import Derived.KernelRfl
import Derived.RowKit3
import Derived.Deep.LoopGhost
import Derived.Deep.QuietTactic
import Derived.BigQuiet
import Derived.WideLaws
import Derived.Deep.DeepCutAuto
import Derived.Deep.CutBlock
import Derived.Deep.RegionHeld3
import Derived.Laws.Rows
import Derived.Lib.AppendStr
import Derived.ArgAppend
import Derived.Laws.IdiomCopy
import Derived.OrdersHeld
import Derived.Laws.BitsLemmas
import Derived.RowKit
import Derived.Shelf.SlGeneric
import Derived.Shelf.Sort.Plain
import Derived.Shelf.Slices.CompactS
import Derived.Shelf.Slices.In.SortNone
import Derived.Shelf.SlSortCmp.NoneTotal
import Derived.Ground.NamesProg
import Derived.Ground.SlsfProg
import Derived.Shelf.Abstract
import Derived.Laws.StructEq
import Derived.Lib.Strings
import Derived.Test.YtciiodbkhilkmaaQViewMore0
import Derived.Test.YtciiodbkhilkmaaQViewMore21
import Derived.Test.YtciiodbkhilkmaaQViewMore22
import Derived.Test.YtciiodbkhilkmaaQViewMore23
import Derived.Test.YtciiodbkhilkmaaQViewMore24
import Derived.Test.YtciiodbkhilkmaaQViewMore25
import Derived.Test.YtciiodbkhilkmaaQViewMore26
import Derived.Test.YtciiodbkhilkmaaQViewMore27
import Derived.Test.YtciiodbkhilkmaaQViewMore28
import Derived.Test.YtciiodbkhilkmaaQViewMore29
import Derived.Test.YtciiodbkhilkmaaQViewMore36
import Derived.Test.YtciiodbkhilkmaaQViewMore37
import Derived.Test.YtciiodbkhilkmaaQViewMore44
import Derived.Test.YtciiodbkhilkmaaQViewMore45
import Derived.Test.YtciiodbkhilkmaaQViewMore46
namespace Go.Proofs.Ytciiodbkhilkmaa.F
set_option linter.unusedVariables false
set_option linter.unusedSimpArgs false
open Go.RowKit Go.Proofs.YtciiodbkhilkmaaW.PrintWords Go.Proofs.YtciiodbkhilkmaaW.PrintLast Go.Proofs.YtciiodbkhilkmaaW.PrintMore
theorem same_l0 (l m : List ByteArray) (hl : l.length < 1000000) (hm : l.length = m.length) : ∀ (n i : Nat), l.length = i + n → Ev (fun k => butteryref08_Same.l0 k l m (i : Int)) (decide (l.drop i = m.drop i))
  | 0, i, h => Ev.succ (by
    simp only [butteryref08_Same.l0]
    exact Ev.neg (by omega) (Ev.eq (Ev.const _) (by rw [List.drop_of_length_le (by omega), List.drop_of_length_le (by omega)]; simp)))
  | n + 1, i, h => Ev.succ (by
    simp only [butteryref08_Same.l0]
    have hi : i < l.length := by omega
    have hi2 : i < m.length := by omega
    refine Ev.pos (by omega) (Ev.pos (by omega) (Ev.pos (by omega) ?_))
    rw [rdOf_get _ _ _ hi, rdOf_get _ _ _ hi2, wrap_add i (by omega), List.drop_eq_getElem_cons hi, List.drop_eq_getElem_cons hi2, toList_bl, toList_bl]
    by_cases c : bl l[i] = bl m[i]
    · exact Ev.pos c (Ev.eq (same_l0 l m hl hm n (i + 1) (by omega)) (by rw [decide_eq_decide, bl_inj c]; exact ⟨congrArg _, fun e => (List.cons.inj e).2⟩))
    · exact Ev.neg c (Ev.eq (Ev.const _) (by rw [eq_comm, decide_eq_false_iff_not]; exact fun e => c (congrArg bl (List.cons.inj e).1))))
theorem same_ev (l m : List ByteArray) (hl : l.length < 1000000) : Ev (fun k => butteryref08_Same.f k l m) (decide (l = m)) := by
  unfold butteryref08_Same.f
  by_cases c : l.length = m.length
  · exact Ev.pos (by omega) (Ev.eq (same_l0 l m hl c l.length 0 (by omega)) (by simp))
  · exact Ev.neg (by omega) (Ev.eq (Ev.const _) (by simp [show l ≠ m from fun e => c (congrArg _ e)]))
theorem equal_l0 (l m : List ByteArray) (hl : l.length < 1000000) (hm : l.length = m.length) : ∀ (n i : Nat), l.length = i + n → Ev (fun k => slices_Equal_string_string.l0 k l m (l.length : Int) (i : Int)) (decide (l.drop i = m.drop i))
  | 0, i, h => Ev.succ (by
    simp only [slices_Equal_string_string.l0]
    exact Ev.neg (by omega) (Ev.eq (Ev.const _) (by rw [List.drop_of_length_le (by omega), List.drop_of_length_le (by omega)]; simp)))
  | n + 1, i, h => Ev.succ (by
    simp only [slices_Equal_string_string.l0]
    have hi : i < l.length := by omega
    have hi2 : i < m.length := by omega
    refine Ev.pos (by omega) (Ev.pos (by omega) (Ev.pos (by omega) (Ev.pos (by omega) ?_)))
    rw [rdOf_get _ _ _ hi, rdOf_get _ _ _ hi2, wrap_add i (by omega), List.drop_eq_getElem_cons hi, List.drop_eq_getElem_cons hi2, toList_bl, toList_bl]
    by_cases c : bl l[i] = bl m[i]
    · exact Ev.pos c (Ev.eq (equal_l0 l m hl hm n (i + 1) (by omega)) (by rw [decide_eq_decide, bl_inj c]; exact ⟨congrArg _, fun e => (List.cons.inj e).2⟩))
    · exact Ev.neg c (Ev.eq (Ev.const _) (by rw [eq_comm, decide_eq_false_iff_not]; exact fun e => c (congrArg bl (List.cons.inj e).1))))
theorem equal_ev (l m : List ByteArray) (hl : l.length < 1000000) : Ev (fun k => slices_Equal_string_string.f k l m) (decide (l = m)) := by
  unfold slices_Equal_string_string.f
  by_cases c : l.length = m.length
  · exact Ev.pos (by omega) (Ev.eq (equal_l0 l m hl c l.length 0 (by omega)) (by simp))
  · exact Ev.neg (by omega) (Ev.eq (Ev.const _) (by simp [show l ≠ m from fun e => c (congrArg _ e)]))
theorem last_rd (l : List ByteArray) (h : l ≠ []) (hl : l.length < 1000000) : rdOf ByteArray.empty l (wrap64 ((l.length : Int) - 1)) = l.getLastD ByteArray.empty ∧ 0 ≤ wrap64 ((l.length : Int) - 1) ∧ wrap64 ((l.length : Int) - 1) < (l.length : Int) := by
  obtain ⟨n, hn⟩ : ∃ n, l.length = n + 1 := ⟨l.length - 1, by have := List.length_pos_iff.2 h; omega⟩
  have e : l.getLastD ByteArray.empty = l[n] := by
    rw [List.getLastD_eq_getLast?, List.getLast?_eq_getElem?, show l.length - 1 = n by omega, List.getElem?_eq_getElem (by omega)]
    rfl
  rw [hn, wrap_sub n (by omega), rdOf_get _ _ n (by omega), e]
  exact ⟨rfl, by omega, by omega⟩
end Go.Proofs.Ytciiodbkhilkmaa.F
