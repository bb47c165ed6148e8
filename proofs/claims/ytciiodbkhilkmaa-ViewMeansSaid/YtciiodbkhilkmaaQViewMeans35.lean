/- ViewMeans, part 35: PViewMeans. -/
import Derived.Lib.SliceRun
import Derived.Shelf.SlGeneric
import Derived.Shelf.Sort.Plain
import Derived.Shelf.Slices.CompactS
import Derived.Shelf.Slices.In.SortNone
import Derived.Shelf.SlSortCmp.NoneTotal
import Derived.Ground.NamesProg
import Derived.Ground.SlsfProg
import Derived.Test.YtciiodbkhilkmaaProg
import Derived.OrdersHeld
import Derived.Deep.RegionHeld3
import Derived.Laws.BitsLemmas
import Derived.RowKit
import Derived.Below
import Derived.Deep.Draws
import Derived.Deep.AppendLies
import Derived.Maps.AppendAt
import Derived.OwnWalk
import Derived.Laws.BytesArg
import Derived.Laws.MakeOwn
import Derived.Laws.OwnMore
import Derived.Deep.OwnRows
import Derived.Tactics
import Derived.Lib.ConvBytes
import Derived.Laws.Slices
import Derived.WalkKit
import Derived.KernelRfl
import Derived.RowKit3
import Derived.Deep.LoopGhost
import Derived.Deep.QuietTactic
import Derived.BigQuiet
import Derived.WideLaws
import Derived.Deep.DeepCutAuto
import Derived.Deep.CutBlock
import Derived.Laws.Rows
import Derived.Lib.AppendStr
import Derived.ArgAppend
import Derived.Laws.IdiomCopy
import Derived.Shelf.Abstract
import Derived.Sort.Walk0
import Derived.Laws.StructEq
import Derived.Lib.Strings
import Derived.MapKept
import Derived.StillTailTactics
import Derived.Sort.Grow
import Derived.Test.YtciiodbkhilkmaaQViewMeans0
import Derived.Test.YtciiodbkhilkmaaQViewMeans1
import Derived.Test.YtciiodbkhilkmaaQViewMeans2
import Derived.Test.YtciiodbkhilkmaaQViewMeans3
import Derived.Test.YtciiodbkhilkmaaQViewMeans4
import Derived.Test.YtciiodbkhilkmaaQViewMeans5
import Derived.Test.YtciiodbkhilkmaaQViewMeans6
import Derived.Test.YtciiodbkhilkmaaQViewMeans7
import Derived.Test.YtciiodbkhilkmaaQViewMeans8
import Derived.Test.YtciiodbkhilkmaaQViewMeans9
import Derived.Test.YtciiodbkhilkmaaQViewMeans10
import Derived.Test.YtciiodbkhilkmaaQViewMeans11
import Derived.Test.YtciiodbkhilkmaaQViewMeans12
import Derived.Test.YtciiodbkhilkmaaQViewMeans13
import Derived.Test.YtciiodbkhilkmaaQViewMeans14
import Derived.Test.YtciiodbkhilkmaaQViewMeans15
import Derived.Test.YtciiodbkhilkmaaQViewMeans16
import Derived.Test.YtciiodbkhilkmaaQViewMeans17
import Derived.Test.YtciiodbkhilkmaaQViewMeans18
import Derived.Test.YtciiodbkhilkmaaQViewMeans19
import Derived.Test.YtciiodbkhilkmaaQViewMeans20
import Derived.Test.YtciiodbkhilkmaaQViewMeans21
import Derived.Test.YtciiodbkhilkmaaQViewMeans22
import Derived.Test.YtciiodbkhilkmaaQViewMeans23
import Derived.Test.YtciiodbkhilkmaaQViewMeans24
import Derived.Test.YtciiodbkhilkmaaQViewMeans25
import Derived.Test.YtciiodbkhilkmaaQViewMeans26
import Derived.Test.YtciiodbkhilkmaaQViewMeans27
import Derived.Test.YtciiodbkhilkmaaQViewMeans28
import Derived.Test.YtciiodbkhilkmaaQViewMeans29
import Derived.Test.YtciiodbkhilkmaaQViewMeans30
import Derived.Test.YtciiodbkhilkmaaQViewMeans31
import Derived.Test.YtciiodbkhilkmaaQViewMeans32
import Derived.Test.YtciiodbkhilkmaaQViewMeans33
import Derived.Test.YtciiodbkhilkmaaQViewMeans34
namespace Go.Proofs.Ytciiodbkhilkmaa.F
set_option linter.unusedVariables false
set_option linter.unusedSimpArgs false
open Go.RowKit Go.Proofs.YtciiodbkhilkmaaW.PrintWords Go.Proofs.YtciiodbkhilkmaaW.PrintLast Go.Proofs.YtciiodbkhilkmaaW.PrintMore
def turnI (turn : Int) (n : Nat) : Nat := ((turn % 18446744073709551616) % (n : Int)).toNat
theorem turn_lt (turn : Int) (n : Nat) (h : 0 < n) : turnI turn n < n := by
  unfold turnI
  have h1 : 0 ≤ (turn % 18446744073709551616) % (n : Int) := Int.emod_nonneg _ (by omega)
  have h2 : (turn % 18446744073709551616) % (n : Int) < (n : Int) := Int.emod_lt_of_pos _ (by omega)
  omega
theorem u64_len (n : Nat) (h : n ≤ 200) : IntKind.u64.wrap (n : Int) = (n : Int) := by
  simp [IntKind.wrap, IntKind.bits, IntKind.signed]
  omega
theorem turn_at (turn : Int) (n i : Nat) (hn : n ≤ 200) (hi : i < n) : Int.tmod (wrap64 ((i : Int) + wrap64 (Int.tmod (IntKind.u64.wrap turn) (IntKind.u64.wrap (n : Int))))) (n : Int) = (((i + turnI turn n) % n : Nat) : Int) := by
  have hr := turn_lt turn n (by omega)
  have e0 : IntKind.u64.wrap turn = turn % 18446744073709551616 := by simp [IntKind.wrap, IntKind.bits, IntKind.signed]
  have h0 : 0 ≤ turn % 18446744073709551616 := Int.emod_nonneg _ (by omega)
  have e1 : Int.tmod (IntKind.u64.wrap turn) (IntKind.u64.wrap (n : Int)) = ((turnI turn n : Nat) : Int) := by
    rw [u64_len n hn, e0, Int.tmod_eq_emod_of_nonneg h0]
    unfold turnI
    rw [Int.toNat_of_nonneg (Int.emod_nonneg _ (by omega))]
  have e2 : wrap64 ((turnI turn n : Nat) : Int) = ((turnI turn n : Nat) : Int) := by unfold wrap64; omega
  have e3 : wrap64 ((i : Int) + ((turnI turn n : Nat) : Int)) = ((i + turnI turn n : Nat) : Int) := by unfold wrap64; omega
  rw [e1, e2, e3, Int.tmod_eq_emod_of_nonneg (by omega)]
  omega
theorem turned_get {α : Type} (l : List α) (r i : Nat) (hr : r < l.length) (hi : i < l.length) : (l.drop r ++ l.take r)[i]? = l[(i + r) % l.length]? := by
  by_cases c : i < l.length - r
  · rw [List.getElem?_append_left (by rw [List.length_drop]; exact c), List.getElem?_drop, Nat.mod_eq_of_lt (by omega), Nat.add_comm]
  · rw [List.getElem?_append_right (by rw [List.length_drop]; omega), List.length_drop, List.getElem?_take_of_lt (by omega)]
    have e : (i + r) % l.length = i - (l.length - r) := by
      rw [show i + r = (i - (l.length - r)) + l.length by omega, Nat.add_mod_right, Nat.mod_eq_of_lt (by omega)]
    rw [e]
theorem turned_take {α : Type} (l : List α) (r i : Nat) (hr : r < l.length) (hi : i < l.length) (h2 : (i + r) % l.length < l.length) : (l.drop r ++ l.take r).take i ++ [l[(i + r) % l.length]] = (l.drop r ++ l.take r).take (i + 1) := by
  rw [List.take_add_one, turned_get l r i hr hi, List.getElem?_eq_getElem h2]
  rfl
theorem means_end (l m : List Item) (key fld : ByteArray) (hl : l.length ≤ 60) (hw : ∀ x ∈ l, WfI x) (hp : l.Perm m) : Ev (fun k => (view_Field.f k l key fld).bind fun bt492 => ((view_Field.f k m key fld).bind fun bt501 => ((view_Same.f k bt492.1 bt492.2.1 bt492.2.2.1 bt492.2.2.2 bt501.1 bt501.2.1 bt501.2.2.1 bt501.2.2.2).bind fun t509 => (if t509 = true then ((item_Of.f l key).bind fun t510 => ((view_Field.f k t510 key fld).bind fun bt513 => ((view_Same.f k bt492.1 bt492.2.1 bt492.2.2.1 bt492.2.2.2 bt513.1 bt513.2.1 bt513.2.2.1 bt513.2.2.2).bind fun t521 => (if t521 = true then ((view_Fields.f k l key).bind fun t522 => ((view_Fields.f k m key).bind fun t525 => ((butteryref08_Same.f k t522 t525).bind fun t528 => (some t528)))) else (some false))))) else (some false))))) true := by
  have hm : m.length = l.length := hp.length_eq.symm
  have hwm : ∀ x ∈ m, WfI x := fun x hx => hw x (hp.mem_iff.2 hx)
  have hfl := fieldV_len l key fld
  have hof : l.filter (fun x => x.f0.toList == key.toList) = l.filter (fun x => decide (x.f0 = key)) := by
    congr 1
    funext x
    by_cases c : x.f0 = key
    · simp [c]
    · have c' : ¬ x.f0.toList = key.toList := fun e => c (toList_eq.1 e)
      simp [c, c']
  have hff := List.length_filter_le (fun x : Item => decide (x.f0 = key)) l
  have hfs := fieldsL_len l key
  refine Ev.bind (field_ev l key fld (by omega) hw) (Ev.bind (field_ev m key fld (by omega) hwm) ?_)
  rw [← fieldV_perm hp key fld]
  refine Ev.bind (vsame_ev _ _ (by omega) (by omega)) (Ev.pos (by simp) ?_)
  refine Ev.bindc (v := l.filter fun x => decide (x.f0 = key)) ?_ ?_
  · unfold item_Of.f
    rw [if_pos (by unfold lim; omega), hof]
  refine Ev.bind (field_ev _ key fld (by omega) fun x hx => hw x (List.mem_filter.1 hx).1) ?_
  rw [fieldV_of l key fld (fun x => decide (x.f0 = key)) fun x h => by simp only [inField, Bool.and_eq_true] at h; exact h.1]
  refine Ev.bind (vsame_ev _ _ (by omega) (by omega)) (Ev.pos (by simp) (Ev.bind (fields_ev l key (by omega)) (Ev.bind (fields_ev m key (by omega)) ?_)))
  rw [← fieldsL_perm hp key]
  exact Ev.bind (same_ev _ _ (by omega)) (Ev.eq (Ev.const _) (by simp))
theorem means_l0 (l : List Item) (key fld : ByteArray) (turn : Int) (hl : l.length ≤ 60) (hw : ∀ x ∈ l, WfI x) : ∀ (n i : Nat), l.length = i + n → Ev (fun k => butterylaw11_ViewMeans.l0 k l key fld turn ((l.drop (turnI turn l.length) ++ l.take (turnI turn l.length)).take i) (i : Int)) true
  | 0, i, h => Ev.succ (by
    simp only [butterylaw11_ViewMeans.l0]
    rw [List.take_of_length_le (by simp; omega)]
    refine Ev.neg (by omega) (means_end l _ key fld hl hw ?_)
    have hp := List.perm_append_comm (l₁ := l.take (turnI turn l.length)) (l₂ := l.drop (turnI turn l.length))
    rw [List.take_append_drop] at hp
    exact hp)
  | n + 1, i, h => Ev.succ (by
    simp only [butterylaw11_ViewMeans.l0]
    have hi : i < l.length := by omega
    have hr := turn_lt turn l.length (by omega)
    have h2 : (i + turnI turn l.length) % l.length < l.length := Nat.mod_lt _ (by omega)
    rw [turn_at turn l.length i (by omega) hi, u64_len _ (by omega)]
    refine Ev.pos (by omega) (Ev.neg (by omega) (Ev.neg (by omega) (Ev.pos (by omega) (Ev.pos (by omega) (Ev.pos ?_ ?_)))))
    · have : ((l.drop (turnI turn l.length) ++ l.take (turnI turn l.length)).take i).length ≤ i := by rw [List.length_take]; omega
      omega
    rw [rdI_get _ _ h2, wrap_add i (by omega)]
    have ih := means_l0 l key fld turn hl hw n (i + 1) (by omega)
    rw [← turned_take l _ i hr hi h2] at ih
    exact ih)
theorem vmeans_law (l : List Item) (key fld : ByteArray) (turn : Int) (hw : ∀ x ∈ l, WfI x) : Ev (fun k => butterylaw11_ViewMeans.f k l key fld turn) true := by
  unfold butterylaw11_ViewMeans.f
  refine Ev.bind awakeV_ev (Ev.pos rfl (Ev.bind (shortI_ev l) ?_))
  by_cases hl : shortI l = true
  rotate_left
  · exact Ev.neg hl (Ev.const _)
  exact Ev.pos hl (means_l0 l key fld turn (shortI_iff.1 hl).1 hw l.length 0 (by omega))
end Go.Proofs.Ytciiodbkhilkmaa.F
