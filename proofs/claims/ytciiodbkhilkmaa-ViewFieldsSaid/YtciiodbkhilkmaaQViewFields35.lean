/- ViewFields, part 35: PViewFields. -/
import Derived.Below
import Derived.Deep.Draws
import Derived.Deep.AppendLies
import Derived.Maps.AppendAt
import Derived.OwnWalk
import Derived.Laws.BytesArg
import Derived.Laws.MakeOwn
import Derived.Laws.OwnMore
import Derived.Deep.OwnRows
import Derived.Tactics
import Derived.Lib.ConvBytes
import Derived.Laws.Slices
import Derived.WalkKit
import Derived.KernelRfl
import Derived.RowKit3
import Derived.Deep.LoopGhost
import Derived.Deep.QuietTactic
import Derived.BigQuiet
import Derived.WideLaws
import Derived.Deep.DeepCutAuto
import Derived.Deep.CutBlock
import Derived.Deep.RegionHeld3
import Derived.Laws.Rows
import Derived.Lib.AppendStr
import Derived.ArgAppend
import Derived.Laws.IdiomCopy
import Derived.RowKit
import Derived.MapKept
import Derived.Lib.SliceRun
import Derived.Laws.StructEq
import Derived.Sort.Walk0
import Derived.Test.YtciiodbkhilkmaaProg
import Derived.StillTailTactics
import Derived.Sort.Grow
import Derived.OrdersHeld
import Derived.Laws.BitsLemmas
import Derived.Shelf.Abstract
import Derived.Lib.Strings
import Derived.Shelf.SlGeneric
import Derived.Shelf.Sort.Plain
import Derived.Shelf.Slices.CompactS
import Derived.Shelf.Slices.In.SortNone
import Derived.Shelf.SlSortCmp.NoneTotal
import Derived.Ground.NamesProg
import Derived.Ground.SlsfProg
import Derived.Test.YtciiodbkhilkmaaQViewFields0
import Derived.Test.YtciiodbkhilkmaaQViewFields1
import Derived.Test.YtciiodbkhilkmaaQViewFields2
import Derived.Test.YtciiodbkhilkmaaQViewFields3
import Derived.Test.YtciiodbkhilkmaaQViewFields4
import Derived.Test.YtciiodbkhilkmaaQViewFields5
import Derived.Test.YtciiodbkhilkmaaQViewFields6
import Derived.Test.YtciiodbkhilkmaaQViewFields7
import Derived.Test.YtciiodbkhilkmaaQViewFields8
import Derived.Test.YtciiodbkhilkmaaQViewFields9
import Derived.Test.YtciiodbkhilkmaaQViewFields10
import Derived.Test.YtciiodbkhilkmaaQViewFields11
import Derived.Test.YtciiodbkhilkmaaQViewFields12
import Derived.Test.YtciiodbkhilkmaaQViewFields13
import Derived.Test.YtciiodbkhilkmaaQViewFields14
import Derived.Test.YtciiodbkhilkmaaQViewFields15
import Derived.Test.YtciiodbkhilkmaaQViewFields16
import Derived.Test.YtciiodbkhilkmaaQViewFields17
import Derived.Test.YtciiodbkhilkmaaQViewFields18
import Derived.Test.YtciiodbkhilkmaaQViewFields19
import Derived.Test.YtciiodbkhilkmaaQViewFields20
import Derived.Test.YtciiodbkhilkmaaQViewFields21
import Derived.Test.YtciiodbkhilkmaaQViewFields22
import Derived.Test.YtciiodbkhilkmaaQViewFields23
import Derived.Test.YtciiodbkhilkmaaQViewFields24
import Derived.Test.YtciiodbkhilkmaaQViewFields25
import Derived.Test.YtciiodbkhilkmaaQViewFields26
import Derived.Test.YtciiodbkhilkmaaQViewFields27
import Derived.Test.YtciiodbkhilkmaaQViewFields28
import Derived.Test.YtciiodbkhilkmaaQViewFields29
import Derived.Test.YtciiodbkhilkmaaQViewFields30
import Derived.Test.YtciiodbkhilkmaaQViewFields31
import Derived.Test.YtciiodbkhilkmaaQViewFields32
import Derived.Test.YtciiodbkhilkmaaQViewFields33
import Derived.Test.YtciiodbkhilkmaaQViewFields34
namespace Go.Proofs.Ytciiodbkhilkmaa.F
set_option linter.unusedVariables false
set_option linter.unusedSimpArgs false
open Go.RowKit Go.Proofs.YtciiodbkhilkmaaW.PrintWords Go.Proofs.YtciiodbkhilkmaaW.PrintLast Go.Proofs.YtciiodbkhilkmaaW.PrintMore
theorem vfields_end (l : List Item) (key : ByteArray) (hl : l.length ≤ 60) : Ev (fun k => (butteryref08_Once.f k (fieldsL l key)).bind fun t371 => ((butteryref08_Same.f k t371 (fieldsL l key)).bind fun t374 => (some t374))) true := by
  have h := fieldsL_len l key
  refine Ev.bind (once_ev _ (by omega)) ?_
  have e : onceL (fieldsL l key) = fieldsL l key := onceL_self (onceL_up _)
  rw [e]
  exact Ev.bind (same_ev _ _ (by omega)) (Ev.eq (Ev.const _) (by simp))
theorem vfields_l1 (l : List Item) (key fld : ByteArray) (hl : l.length ≤ 60) (hw : ∀ x ∈ l, WfI x) (is : Bool) (his : is = l.any (inField key fld)) : ∀ (n i : Nat) (has : Bool), l.length = i + n → (has || (l.drop i).any (inField key fld)) = l.any (inField key fld) →
    Ev (fun k => butterylaw11_ViewFields.l1 k l key fld (fieldsL l key) is has (i : Int)) true
  | 0, i, has, h, hh => Ev.succ (by
    simp only [butterylaw11_ViewFields.l1]
    rw [List.drop_of_length_le (by omega), List.any_nil, Bool.or_false] at hh
    refine Ev.neg (by omega) (Ev.pos (by rw [his, hh]; simp) ?_)
    by_cases c : has = true
    · exact Ev.pos c (vfields_end l key hl)
    · refine Ev.neg c (Ev.bind (field_ev l key fld (by omega) hw) (Ev.bindc (vempty_val _) (Ev.pos ?_ (vfields_end l key hl))))
      rw [decide_eq_true_iff]
      have hn : l.any (inField key fld) = false := by rw [← hh]; simpa using c
      have hf : ∀ kd, l.filter (sel key fld kd) = [] := fun kd => List.filter_eq_nil_iff.2 fun x hx => by
        have := (List.any_eq_false.1 hn) x hx
        simp [sel, this]
      unfold fieldV finV
      rw [hf, hf, hf]
      have o1 : onceL ([] : List ByteArray) = [] := onceL_self List.Pairwise.nil
      rw [List.map_nil, o1]
      rfl)
  | n + 1, i, has, h, hh => Ev.succ (by
    simp only [butterylaw11_ViewFields.l1]
    have hi : i < l.length := by omega
    have ih := vfields_l1 l key fld hl hw is his n (i + 1)
    rw [List.drop_eq_getElem_cons hi, List.any_cons] at hh
    refine Ev.pos (by omega) ?_
    rw [wrap_add i (by omega)]
    by_cases c : has = true
    · refine Ev.pos c (ih true (by omega) ?_)
      rw [c] at hh
      simpa using hh
    · refine Ev.neg c (Ev.pos (by omega) ?_)
      rw [rdI_get _ _ hi]
      have c : has = false := by simpa using c
      subst c
      by_cases c0 : l[i].f0 = key
      · refine Ev.pos (toList_eq.2 c0) (ih _ (by omega) ?_)
        rw [← hh]
        by_cases c1 : l[i].f1 = fld
        · simp [inField, c0, c1]
        · have c1' : ¬ l[i].f1.toList = fld.toList := fun e => c1 (toList_eq.1 e)
          simp [inField, c0, c1, c1']
      · refine Ev.neg (fun e => c0 (toList_eq.1 e)) (ih false (by omega) ?_)
        rw [← hh]
        simp [inField, c0])
theorem vfields_l0 (l : List Item) (key fld : ByteArray) (hl : l.length ≤ 60) (hw : ∀ x ∈ l, WfI x) : ∀ (n i : Nat) (is : Bool), (fieldsL l key).length = i + n → (is || ((fieldsL l key).drop i).any fun x => decide (x = fld)) = l.any (inField key fld) →
    Ev (fun k => butterylaw11_ViewFields.l0 k l key fld (fieldsL l key) is false (i : Int)) true
  | 0, i, is, h, hh => Ev.succ (by
    simp only [butterylaw11_ViewFields.l0]
    rw [List.drop_of_length_le (by omega), List.any_nil, Bool.or_false] at hh
    exact Ev.neg (by omega) (vfields_l1 l key fld hl hw is hh l.length 0 false (by omega) (by simp)))
  | n + 1, i, is, h, hh => Ev.succ (by
    simp only [butterylaw11_ViewFields.l0]
    have hf := fieldsL_len l key
    have hi : i < (fieldsL l key).length := by omega
    have ih := vfields_l0 l key fld hl hw n (i + 1)
    rw [List.drop_eq_getElem_cons hi, List.any_cons] at hh
    refine Ev.pos (by omega) ?_
    rw [wrap_add i (by omega)]
    by_cases c : is = true
    · refine Ev.pos c (ih true (by omega) ?_)
      rw [c] at hh
      simpa using hh
    · refine Ev.neg c (Ev.pos (by omega) ?_)
      rw [rdOf_get _ _ _ hi]
      have c : is = false := by simpa using c
      subst c
      refine ih _ (by omega) ?_
      rw [← hh]
      by_cases c1 : (fieldsL l key)[i] = fld
      · simp [c1]
      · have c1' : ¬ (fieldsL l key)[i].toList = fld.toList := fun e => c1 (toList_eq.1 e)
        simp [c1, c1'])
theorem vfields_law (l : List Item) (key fld : ByteArray) (hw : ∀ x ∈ l, WfI x) : Ev (fun k => butterylaw11_ViewFields.f k l key fld) true := by
  unfold butterylaw11_ViewFields.f
  refine Ev.bind awakeV_ev (Ev.pos rfl (Ev.bind (shortI_ev l) ?_))
  by_cases hl : shortI l = true
  rotate_left
  · exact Ev.neg hl (Ev.const _)
  have ll := (shortI_iff.1 hl).1
  refine Ev.pos hl (Ev.bind (fields_ev l key (by omega)) (vfields_l0 l key fld ll hw (fieldsL l key).length 0 false (by omega) ?_))
  rw [List.drop_zero, Bool.false_or, Bool.eq_iff_iff, List.any_eq_true, List.any_eq_true]
  constructor
  · rintro ⟨x, hx, e⟩
    obtain rfl := of_decide_eq_true e
    obtain ⟨y, hy, rfl⟩ := List.mem_map.1 ((onceL_mem _ _).1 hx)
    obtain ⟨hy, ey⟩ := List.mem_filter.1 hy
    exact ⟨y, hy, by simpa [inField] using ey⟩
  · rintro ⟨y, hy, e⟩
    simp only [inField, Bool.and_eq_true, decide_eq_true_iff] at e
    refine ⟨y.f1, (onceL_mem _ _).2 (List.mem_map.2 ⟨y, List.mem_filter.2 ⟨hy, decide_eq_true e.1⟩, rfl⟩), decide_eq_true e.2⟩
end Go.Proofs.Ytciiodbkhilkmaa.F
