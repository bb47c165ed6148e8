/- ViewMore, part 52: PView. -/
import Derived.Sort.Walk0
import Derived.StillTailTactics
import Derived.Sort.Grow
import Derived.Lib.SliceRun
import Derived.Test.YtciiodbkhilkmaaProg
import Derived.Below
import Derived.Deep.Draws
import Derived.Deep.AppendLies
import Derived.Maps.AppendAt
import Derived.OwnWalk
import Derived.Laws.BytesArg
import Derived.Laws.MakeOwn
import Derived.Laws.OwnMore
import Derived.Deep.OwnRows
import Derived.Tactics
import Derived.Lib.ConvBytes
import Derived.Laws.Slices
import Derived.WalkKit
import Derived.KernelRfl
import Derived.RowKit3
import Derived.Deep.LoopGhost
import Derived.Deep.QuietTactic
import Derived.BigQuiet
import Derived.WideLaws
import Derived.Deep.DeepCutAuto
import Derived.Deep.CutBlock
import Derived.Deep.RegionHeld3
import Derived.Laws.Rows
import Derived.Lib.AppendStr
import Derived.ArgAppend
import Derived.Laws.IdiomCopy
import Derived.OrdersHeld
import Derived.Laws.BitsLemmas
import Derived.RowKit
import Derived.Shelf.SlGeneric
import Derived.Shelf.Sort.Plain
import Derived.Shelf.Slices.CompactS
import Derived.Shelf.Slices.In.SortNone
import Derived.Shelf.SlSortCmp.NoneTotal
import Derived.Ground.NamesProg
import Derived.Ground.SlsfProg
import Derived.Shelf.Abstract
import Derived.Laws.StructEq
import Derived.Lib.Strings
import Derived.MapKept
import Derived.Test.YtciiodbkhilkmaaQViewMore0
import Derived.Test.YtciiodbkhilkmaaQViewMore21
import Derived.Test.YtciiodbkhilkmaaQViewMore22
import Derived.Test.YtciiodbkhilkmaaQViewMore23
import Derived.Test.YtciiodbkhilkmaaQViewMore24
import Derived.Test.YtciiodbkhilkmaaQViewMore25
import Derived.Test.YtciiodbkhilkmaaQViewMore26
import Derived.Test.YtciiodbkhilkmaaQViewMore27
import Derived.Test.YtciiodbkhilkmaaQViewMore28
import Derived.Test.YtciiodbkhilkmaaQViewMore29
import Derived.Test.YtciiodbkhilkmaaQViewMore30
import Derived.Test.YtciiodbkhilkmaaQViewMore31
import Derived.Test.YtciiodbkhilkmaaQViewMore34
import Derived.Test.YtciiodbkhilkmaaQViewMore35
import Derived.Test.YtciiodbkhilkmaaQViewMore36
import Derived.Test.YtciiodbkhilkmaaQViewMore37
import Derived.Test.YtciiodbkhilkmaaQViewMore38
import Derived.Test.YtciiodbkhilkmaaQViewMore39
import Derived.Test.YtciiodbkhilkmaaQViewMore40
import Derived.Test.YtciiodbkhilkmaaQViewMore41
import Derived.Test.YtciiodbkhilkmaaQViewMore42
import Derived.Test.YtciiodbkhilkmaaQViewMore43
import Derived.Test.YtciiodbkhilkmaaQViewMore44
import Derived.Test.YtciiodbkhilkmaaQViewMore45
import Derived.Test.YtciiodbkhilkmaaQViewMore46
import Derived.Test.YtciiodbkhilkmaaQViewMore47
import Derived.Test.YtciiodbkhilkmaaQViewMore48
import Derived.Test.YtciiodbkhilkmaaQViewMore49
import Derived.Test.YtciiodbkhilkmaaQViewMore50
import Derived.Test.YtciiodbkhilkmaaQViewMore51
namespace Go.Proofs.Ytciiodbkhilkmaa.F
set_option linter.unusedVariables false
set_option linter.unusedSimpArgs false
open Go.RowKit Go.Proofs.YtciiodbkhilkmaaW.PrintWords Go.Proofs.YtciiodbkhilkmaaW.PrintLast Go.Proofs.YtciiodbkhilkmaaW.PrintMore
def inField (key fld : ByteArray) (x : Item) : Bool := decide (x.f0 = key) && decide (x.f1 = fld)
def sel (key fld : ByteArray) (kd : Int) (x : Item) : Bool := inField key fld x && decide (x.f2 = kd)
def finV (e r : List ByteArray) (c : List Int) : List ByteArray × List ByteArray × Int × Bool := (onceL e, onceL r, (tot c.sum).1, (tot c.sum).2 != 0)
def fieldV (l : List Item) (key fld : ByteArray) : List ByteArray × List ByteArray × Int × Bool :=
  finV ((l.filter (sel key fld 1)).map fun x => x.f3) ((l.filter (sel key fld 2)).map fun x => x.f3) ((l.filter (sel key fld 3)).map fun x => x.f4)
theorem toList_eq {a b : ByteArray} : a.toList = b.toList ↔ a = b := by
  rw [toList_bl, toList_bl]
  exact ⟨bl_inj, congrArg bl⟩
theorem toList_bne (a b : ByteArray) : (a.toList != b.toList) = !decide (a = b) := by
  by_cases h : a = b
  · subst h; simp
  · have h' : ¬ a.toList = b.toList := fun e => h (toList_eq.1 e)
    simp [h, h', bne]
theorem once_val (l : List ByteArray) (hl : l.length < 1000000) : view_once.f l = some (onceL l) := by
  unfold view_once.f
  rw [if_pos (by unfold lim; omega)]
theorem field_l0 (l : List Item) (key fld : ByteArray) (hl : l.length < 100000) (hw : ∀ x ∈ l, WfI x) : ∀ (n i : Nat) (e r : List ByteArray) (c : List Int), l.length = i + n → e.length ≤ i → r.length ≤ i → c.length ≤ i → (∀ x ∈ c, I64 x) →
    Ev (fun k => view_Field.l0 k key fld c l (l.length : Int) (i : Int) e r 0 false) (finV (e ++ ((l.drop i).filter (sel key fld 1)).map fun x => x.f3) (r ++ ((l.drop i).filter (sel key fld 2)).map fun x => x.f3) (c ++ ((l.drop i).filter (sel key fld 3)).map fun x => x.f4))
  | 0, i, e, r, c, h, h1, h2, h3, hc => Ev.succ (by
    simp only [view_Field.l0]
    refine Ev.neg (by omega) (Ev.bindc (once_val e (by omega)) (Ev.bindc (once_val r (by omega)) (Ev.bind (total_ev c (by omega) hc) (Ev.eq (Ev.const _) ?_))))
    rw [List.drop_of_length_le (by omega)]
    simp [finV])
  | n + 1, i, e, r, c, h, h1, h2, h3, hc => Ev.succ (by
    simp only [view_Field.l0]
    have hi : i < l.length := by omega
    have ih := field_l0 l key fld hl hw n (i + 1)
    refine Ev.pos (by omega) (Ev.pos (by omega) (Ev.pos (by omega) ?_))
    rw [rdI_get _ _ hi, List.drop_eq_getElem_cons hi, toList_bne]
    have hx := hw _ (List.getElem_mem hi)
    generalize l[i] = x at *
    by_cases c0 : x.f0 = key
    · refine Ev.pos (toList_eq.2 c0) (Ev.succ ?_)
      simp only [view_Field.j1]
      rw [wrap_add i (by omega)]
      by_cases c1 : x.f1 = fld
      · refine Ev.neg (by simp [c1]) ?_
        by_cases k1 : x.f2 = 1
        · refine Ev.pos k1 (Ev.pos (by omega) (Ev.eq (ih (e ++ [x.f3]) r c (by omega) (by simp; omega) (by omega) (by omega) hc) ?_))
          simp [sel, inField, c0, c1, k1]
        · refine Ev.neg k1 ?_
          by_cases k2 : x.f2 = 2
          · refine Ev.pos k2 (Ev.pos (by omega) (Ev.eq (ih e (r ++ [x.f3]) c (by omega) (by omega) (by simp; omega) (by omega) hc) ?_))
            simp [sel, inField, c0, c1, k2]
          · refine Ev.neg k2 ?_
            by_cases k3 : x.f2 = 3
            · refine Ev.pos k3 (Ev.pos (by omega) (Ev.eq (ih e r (c ++ [x.f4]) (by omega) (by omega) (by omega) (by simp; omega) ?_) ?_))
              · intro y hy
                rcases List.mem_append.1 hy with hy | hy
                · exact hc y hy
                · rw [List.mem_singleton.1 hy]; exact hx.2.1
              · simp [sel, inField, c0, c1, k3]
            · exact Ev.neg k3 (Ev.eq (ih e r c (by omega) (by omega) (by omega) (by omega) hc) (by simp [sel, inField, k1, k2, k3]))
      · exact Ev.pos (by simp [c1]) (Ev.eq (ih e r c (by omega) (by omega) (by omega) (by omega) hc) (by simp [sel, inField, c1]))
    · refine Ev.neg (fun h => c0 (toList_eq.1 h)) (Ev.succ ?_)
      simp only [view_Field.j1]
      rw [wrap_add i (by omega)]
      exact Ev.pos (by trivial) (Ev.eq (ih e r c (by omega) (by omega) (by omega) (by omega) hc) (by simp [sel, inField, c0])))
theorem field_ev (l : List Item) (key fld : ByteArray) (hl : l.length < 100000) (hw : ∀ x ∈ l, WfI x) : Ev (fun k => view_Field.f k l key fld) (fieldV l key fld) := by
  unfold view_Field.f
  exact Ev.eq (field_l0 l key fld hl hw l.length 0 [] [] [] (by omega) (by simp) (by simp) (by simp) (by simp)) (by simp [fieldV])
theorem finV_len (e r : List ByteArray) (c : List Int) : (finV e r c).1.length ≤ e.length ∧ (finV e r c).2.1.length ≤ r.length := ⟨onceL_len e, onceL_len r⟩
theorem fieldV_len (l : List Item) (key fld : ByteArray) : (fieldV l key fld).1.length ≤ l.length ∧ (fieldV l key fld).2.1.length ≤ l.length := by
  have h := finV_len ((l.filter (sel key fld 1)).map fun x => x.f3) ((l.filter (sel key fld 2)).map fun x => x.f3) ((l.filter (sel key fld 3)).map fun x => x.f4)
  have h1 := List.length_filter_le (sel key fld 1) l
  have h2 := List.length_filter_le (sel key fld 2) l
  rw [List.length_map, List.length_map] at h
  exact ⟨Nat.le_trans h.1 h1, Nat.le_trans h.2 h2⟩
theorem vsame_ev (a b : List ByteArray × List ByteArray × Int × Bool) (h1 : a.1.length < 1000000) (h2 : a.2.1.length < 1000000) : Ev (fun k => view_Same.f k a.1 a.2.1 a.2.2.1 a.2.2.2 b.1 b.2.1 b.2.2.1 b.2.2.2) (decide (a = b)) := by
  obtain ⟨a1, a2, a3, a4⟩ := a
  obtain ⟨b1, b2, b3, b4⟩ := b
  unfold view_Same.f
  refine Ev.bind (equal_ev _ _ h1) ?_
  by_cases c1 : a1 = b1
  · refine Ev.pos (decide_eq_true c1) (Ev.bind (equal_ev _ _ h2) ?_)
    by_cases c2 : a2 = b2
    · refine Ev.pos (decide_eq_true c2) ?_
      by_cases c3 : a3 = b3
      · exact Ev.pos c3 (Ev.eq (Ev.const _) (by cases a4 <;> cases b4 <;> simp [c1, c2, c3]))
      · exact Ev.neg c3 (Ev.eq (Ev.const _) (by simp [c3]))
    · exact Ev.neg (by simp [c2]) (Ev.eq (Ev.const _) (by simp [c2]))
  · exact Ev.neg (by simp [c1]) (Ev.eq (Ev.const _) (by simp [c1]))
def emptyV : List ByteArray × List ByteArray × Int × Bool := ([], [], 0, false)
theorem vempty_val (a : List ByteArray × List ByteArray × Int × Bool) : view_Empty.f a.1 a.2.1 a.2.2.1 a.2.2.2 = some (decide (a = emptyV)) := by
  obtain ⟨a1, a2, a3, a4⟩ := a
  unfold view_Empty.f emptyV
  by_cases c1 : a1 = []
  · subst c1
    by_cases c2 : a2 = []
    · subst c2
      by_cases c3 : a3 = 0
      · subst c3; cases a4 <;> simp
      · simp [c3]
    · have : ¬ ((a2.length : Int) = 0) := by have := List.length_pos_iff.2 c2; omega
      simp [c2, this]
  · have : ¬ ((a1.length : Int) = 0) := by have := List.length_pos_iff.2 c1; omega
    simp [c1, this]
def awV : List Item := [⟨⟨#[97]⟩, ⟨#[]⟩, 2, ⟨#[120]⟩, 0, ⟨0, 0, 0⟩⟩, ⟨⟨#[97]⟩, ⟨#[]⟩, 2, ⟨#[98]⟩, 0, ⟨0, 0, 0⟩⟩, ⟨⟨#[97]⟩, ⟨#[]⟩, 3, ⟨#[]⟩, 4, ⟨0, 0, 0⟩⟩]
theorem awV_is : fieldV awV ⟨#[97]⟩ ⟨#[]⟩ = ([], [⟨#[98]⟩, ⟨#[120]⟩], 4, false) := by
  have e1 : awV.filter (sel ⟨#[97]⟩ ⟨#[]⟩ 1) = [] := by decide
  have e2 : (awV.filter (sel ⟨#[97]⟩ ⟨#[]⟩ 2)).map (fun x => x.f3) = [⟨#[120]⟩, ⟨#[98]⟩] := by decide
  have e3 : (awV.filter (sel ⟨#[97]⟩ ⟨#[]⟩ 3)).map (fun x => x.f4) = [4] := by decide
  unfold fieldV finV
  rw [e1, e2, e3]
  have o1 : onceL ([] : List ByteArray) = [] := onceL_self List.Pairwise.nil
  have o2 : onceL [(⟨#[120]⟩ : ByteArray), ⟨#[98]⟩] = [⟨#[98]⟩, ⟨#[120]⟩] := onceL_eq (by
    have h : bl (⟨#[98]⟩ : ByteArray) < bl (⟨#[120]⟩ : ByteArray) := by decide
    simp [Up, h]) fun x => by
    simp only [List.mem_cons, List.not_mem_nil, or_false]
    exact Or.comm
  rw [List.map_nil, o1, o2]
  rfl
theorem awakeV_ev : Ev (fun k => butterylaw11_awake.f k) true := by
  unfold butterylaw11_awake.f
  have hw : ∀ x ∈ awV, WfI x := by
    intro x hx
    simp only [awV, List.mem_cons, List.not_mem_nil, or_false] at hx
    rcases hx with rfl | rfl | rfl <;> simp [WfI, I64]
  refine Ev.bind (Ev.eq (field_ev awV ⟨#[97]⟩ ⟨#[]⟩ (by decide) hw) awV_is) (Ev.bind (same_ev _ _ (by decide)) (Ev.pos (by decide) (Ev.pos rfl (Ev.bindc (v := false) ?_ (Ev.neg (by decide) ?_)))))
  · rw [vempty_val]
    rfl
  · exact Ev.bind (vsame_ev ([], [⟨#[98]⟩, ⟨#[120]⟩], 4, false) ([], [⟨#[98]⟩, ⟨#[120]⟩], 4, false) (by decide) (by decide)) (Ev.eq (Ev.const _) (by simp))
end Go.Proofs.Ytciiodbkhilkmaa.F
