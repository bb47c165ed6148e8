/- ItemParts, part 34: PItem. -/
import Derived.Lib.SliceRun
import Derived.Sort.Walk0
import Derived.Lib.Strings
import Derived.Shelf.Abstract
import Derived.Shelf.SlGeneric
import Derived.Shelf.Sort.Plain
import Derived.Shelf.Slices.CompactS
import Derived.Shelf.Slices.In.SortNone
import Derived.Shelf.SlSortCmp.NoneTotal
import Derived.Ground.NamesProg
import Derived.Ground.SlsfProg
import Derived.Test.YtciiodbkhilkmaaProg
import Derived.OrdersHeld
import Derived.Deep.RegionHeld3
import Derived.Laws.BitsLemmas
import Derived.RowKit
import Derived.WalkKit
import Derived.Below
import Derived.Deep.Draws
import Derived.Deep.AppendLies
import Derived.Maps.AppendAt
import Derived.OwnWalk
import Derived.Laws.BytesArg
import Derived.Laws.MakeOwn
import Derived.Laws.OwnMore
import Derived.Deep.OwnRows
import Derived.Tactics
import Derived.Lib.ConvBytes
import Derived.Laws.Slices
import Derived.KernelRfl
import Derived.RowKit3
import Derived.Deep.LoopGhost
import Derived.Deep.QuietTactic
import Derived.BigQuiet
import Derived.WideLaws
import Derived.Deep.DeepCutAuto
import Derived.Deep.CutBlock
import Derived.Laws.Rows
import Derived.Lib.AppendStr
import Derived.ArgAppend
import Derived.Laws.IdiomCopy
import Derived.StillTailTactics
import Derived.Sort.Grow
import Derived.MapKept
import Derived.Laws.StructEq
import Derived.Test.YtciiodbkhilkmaaQItemParts0
import Derived.Test.YtciiodbkhilkmaaQItemParts1
import Derived.Test.YtciiodbkhilkmaaQItemParts2
import Derived.Test.YtciiodbkhilkmaaQItemParts3
import Derived.Test.YtciiodbkhilkmaaQItemParts4
import Derived.Test.YtciiodbkhilkmaaQItemParts5
import Derived.Test.YtciiodbkhilkmaaQItemParts6
import Derived.Test.YtciiodbkhilkmaaQItemParts7
import Derived.Test.YtciiodbkhilkmaaQItemParts8
import Derived.Test.YtciiodbkhilkmaaQItemParts9
import Derived.Test.YtciiodbkhilkmaaQItemParts10
import Derived.Test.YtciiodbkhilkmaaQItemParts11
import Derived.Test.YtciiodbkhilkmaaQItemParts12
import Derived.Test.YtciiodbkhilkmaaQItemParts13
import Derived.Test.YtciiodbkhilkmaaQItemParts14
import Derived.Test.YtciiodbkhilkmaaQItemParts15
import Derived.Test.YtciiodbkhilkmaaQItemParts16
import Derived.Test.YtciiodbkhilkmaaQItemParts17
import Derived.Test.YtciiodbkhilkmaaQItemParts18
import Derived.Test.YtciiodbkhilkmaaQItemParts19
import Derived.Test.YtciiodbkhilkmaaQItemParts20
import Derived.Test.YtciiodbkhilkmaaQItemParts21
import Derived.Test.YtciiodbkhilkmaaQItemParts22
import Derived.Test.YtciiodbkhilkmaaQItemParts23
import Derived.Test.YtciiodbkhilkmaaQItemParts24
import Derived.Test.YtciiodbkhilkmaaQItemParts25
import Derived.Test.YtciiodbkhilkmaaQItemParts26
import Derived.Test.YtciiodbkhilkmaaQItemParts27
import Derived.Test.YtciiodbkhilkmaaQItemParts28
import Derived.Test.YtciiodbkhilkmaaQItemParts29
import Derived.Test.YtciiodbkhilkmaaQItemParts30
import Derived.Test.YtciiodbkhilkmaaQItemParts31
import Derived.Test.YtciiodbkhilkmaaQItemParts32
import Derived.Test.YtciiodbkhilkmaaQItemParts33
namespace Go.Proofs.Ytciiodbkhilkmaa.F
set_option linter.unusedVariables false
set_option linter.unusedSimpArgs false
open Go.RowKit Go.Proofs.YtciiodbkhilkmaaW.PrintWords Go.Proofs.YtciiodbkhilkmaaW.PrintLast Go.Proofs.YtciiodbkhilkmaaW.PrintMore
deriving instance DecidableEq for S24
deriving instance DecidableEq for S26
theorem rdI_get (l : List Item) (i : Nat) (h : i < l.length) : rd_T26 l (i : Int) = l[i] := by
  unfold rd_T26
  rw [List.getD_eq_getElem?_getD, Int.toNat_natCast, List.getElem?_eq_getElem h]
  rfl
def shortI (l : List Item) : Bool := decide (l.length ≤ 60) && l.all fun x => decide (x.f0.size ≤ 300) && (decide (x.f1.size ≤ 300) && decide (x.f3.size ≤ 300))
theorem shortI_l0 (l : List Item) (hl : l.length ≤ 60) : ∀ (n i : Nat), l.length = i + n → Ev (fun k => butteryref09_Short.l0 k l (i : Int)) ((l.drop i).all fun x => decide (x.f0.size ≤ 300) && (decide (x.f1.size ≤ 300) && decide (x.f3.size ≤ 300)))
  | 0, i, h => Ev.succ (by
    simp only [butteryref09_Short.l0]
    exact Ev.neg (by omega) (Ev.eq (Ev.const _) (by rw [List.drop_of_length_le (by omega)]; rfl)))
  | n + 1, i, h => Ev.succ (by
    simp only [butteryref09_Short.l0]
    have hi : i < l.length := by omega
    refine Ev.pos (by omega) (Ev.pos (by omega) ?_)
    rw [rdI_get _ _ hi, wrap_add i (by omega), List.drop_eq_getElem_cons hi, List.all_cons]
    by_cases c : l[i].f0.size ≤ 300
    · refine Ev.neg (by omega) ?_
      by_cases c1 : l[i].f1.size ≤ 300
      · refine Ev.neg (by omega) ?_
        by_cases c2 : l[i].f3.size ≤ 300
        · exact Ev.neg (by omega) (Ev.eq (shortI_l0 l hl n (i + 1) (by omega)) (by simp [c, c1, c2]))
        · exact Ev.pos (by omega) (Ev.eq (Ev.const _) (by simp [c2]))
      · exact Ev.pos (by omega) (Ev.eq (Ev.const _) (by simp [c1]))
    · exact Ev.pos (by omega) (Ev.eq (Ev.const _) (by simp [c])))
theorem shortI_ev (l : List Item) : Ev (fun k => butteryref09_Short.f k l) (shortI l) := by
  unfold butteryref09_Short.f shortI
  by_cases c : l.length ≤ 60
  · exact Ev.neg (by omega) (Ev.eq (shortI_l0 l c l.length 0 (by omega)) (by simp [c]))
  · exact Ev.pos (by omega) (Ev.eq (Ev.const _) (by simp [c]))
theorem shortI_iff {l : List Item} : shortI l = true ↔ l.length ≤ 60 ∧ ∀ x ∈ l, x.f0.size ≤ 300 ∧ x.f1.size ≤ 300 ∧ x.f3.size ≤ 300 := by simp [shortI]
theorem item_ne (x y : Item) : (!((x.f0.toList) == (y.f0.toList)) || (!((x.f1.toList) == (y.f1.toList)) || (!((x.f2) == (y.f2)) || (!((x.f3.toList) == (y.f3.toList)) || (!((x.f4) == (y.f4)) || ((!((x.f5.f0) == (y.f5.f0)) || (!((x.f5.f1) == (y.f5.f1)) || (!((x.f5.f2) == (y.f5.f2))))))))))) = true ↔ ¬ x = y := by
  obtain ⟨x0, x1, x2, x3, x4, ⟨x5, x6, x7⟩⟩ := x
  obtain ⟨y0, y1, y2, y3, y4, ⟨y5, y6, y7⟩⟩ := y
  simp only [toList_bl]
  have e : ∀ a b : ByteArray, bl a = bl b ↔ a = b := fun a b => ⟨bl_inj, congrArg bl⟩
  simp only [Bool.or_eq_true, Bool.not_eq_true', beq_eq_false_iff_ne, ne_eq, e, S26.mk.injEq, S24.mk.injEq]
  grind
theorem sameI_l0 (l m : List Item) (hl : l.length < 1000000) (hm : l.length = m.length) : ∀ (n i : Nat), l.length = i + n → Ev (fun k => butteryref09_Same.l0 k l m (i : Int)) (decide (l.drop i = m.drop i))
  | 0, i, h => Ev.succ (by
    simp only [butteryref09_Same.l0]
    exact Ev.neg (by omega) (Ev.eq (Ev.const _) (by rw [List.drop_of_length_le (by omega), List.drop_of_length_le (by omega)]; simp)))
  | n + 1, i, h => Ev.succ (by
    simp only [butteryref09_Same.l0]
    have hi : i < l.length := by omega
    have hi2 : i < m.length := by omega
    refine Ev.pos (by omega) (Ev.pos (by omega) (Ev.pos (by omega) ?_))
    rw [rdI_get _ _ hi, rdI_get _ _ hi2, wrap_add i (by omega), List.drop_eq_getElem_cons hi, List.drop_eq_getElem_cons hi2]
    by_cases c : l[i] = m[i]
    · exact Ev.neg (fun h => (item_ne _ _).1 h c) (Ev.eq (sameI_l0 l m hl hm n (i + 1) (by omega)) (by rw [decide_eq_decide, c]; exact ⟨congrArg _, fun e => (List.cons.inj e).2⟩))
    · exact Ev.pos ((item_ne _ _).2 c) (Ev.eq (Ev.const _) (by rw [eq_comm, decide_eq_false_iff_not]; exact fun e => c (List.cons.inj e).1)))
theorem sameI_ev (l m : List Item) (hl : l.length < 1000000) : Ev (fun k => butteryref09_Same.f k l m) (decide (l = m)) := by
  unfold butteryref09_Same.f
  by_cases c : l.length = m.length
  · exact Ev.pos (by omega) (Ev.eq (sameI_l0 l m hl c l.length 0 (by omega)) (by simp))
  · exact Ev.neg (by omega) (Ev.eq (Ev.const _) (by simp [show l ≠ m from fun e => c (congrArg _ e)]))
theorem norm_val (l : List Item) (hl : l.length < 1000000) : item_Norm.f l = some (normL l) := by
  unfold item_Norm.f
  rw [if_pos (by unfold lim; omega)]
theorem under_val (l : List Item) (z : List ByteArray) (hl : l.length < 1000000) : item_Under.f l z = some (l.filter fun x => coversL z x.f0) := by
  unfold item_Under.f
  rw [if_pos (by unfold lim; omega)]
def szI : List Item → Nat
  | [] => 0
  | x :: l => (x.f0.size + x.f1.size + x.f3.size + 24) + szI l
theorem wrap_nat (n : Nat) (h : n < 1000000000) : wrap64 (n : Int) = (n : Int) := by
  unfold wrap64
  omega
theorem wrap_sum (acc a b c : Nat) (ha : a ≤ 300) (hb : b ≤ 300) (hc : c ≤ 300) (h : acc ≤ 500000000) : wrap64 ((acc : Int) + wrap64 (wrap64 (wrap64 ((a : Int) + (b : Int)) + (c : Int)) + 24)) = ((acc + (a + b + c + 24) : Nat) : Int) := by
  have e24 : (24 : Int) = ((24 : Nat) : Int) := rfl
  rw [← Int.natCast_add a b, wrap_nat (a + b) (by omega), ← Int.natCast_add, wrap_nat (a + b + c) (by omega), e24, ← Int.natCast_add, wrap_nat (a + b + c + 24) (by omega), ← Int.natCast_add, wrap_nat _ (by omega)]
theorem size_l0 (l : List Item) (hl : l.length < 100000) (hs : ∀ x ∈ l, x.f0.size ≤ 300 ∧ x.f1.size ≤ 300 ∧ x.f3.size ≤ 300) : ∀ (n i acc : Nat), l.length = i + n → acc ≤ i * 1000 → Ev (fun k => item_Size.l0 k (acc : Int) l (l.length : Int) (i : Int)) ((acc + szI (l.drop i) : Nat) : Int)
  | 0, i, acc, h, ha => Ev.succ (by
    simp only [item_Size.l0]
    exact Ev.neg (by omega) (Ev.eq (Ev.const _) (by rw [List.drop_of_length_le (by omega)]; rfl)))
  | n + 1, i, acc, h, ha => Ev.succ (by
    simp only [item_Size.l0]
    have hi : i < l.length := by omega
    refine Ev.pos (by omega) (Ev.pos (by omega) (Ev.pos (by omega) ?_))
    rw [rdI_get _ _ hi, wrap_add i (by omega), List.drop_eq_getElem_cons hi]
    obtain ⟨s0, s1, s3⟩ := hs l[i] (List.getElem_mem hi)
    have e : wrap64 ((acc : Int) + wrap64 (wrap64 (wrap64 ((l[i].f0.size : Int) + (l[i].f1.size : Int)) + (l[i].f3.size : Int)) + 24)) = ((acc + (l[i].f0.size + l[i].f1.size + l[i].f3.size + 24) : Nat) : Int) := by
      exact wrap_sum acc _ _ _ s0 s1 s3 (by omega)
    rw [e]
    exact Ev.eq (size_l0 l hl hs n (i + 1) _ (by omega) (by omega)) (by rw [szI, Nat.add_assoc]))
theorem size_ev (l : List Item) (hl : l.length < 100000) (hs : ∀ x ∈ l, x.f0.size ≤ 300 ∧ x.f1.size ≤ 300 ∧ x.f3.size ≤ 300) : Ev (fun k => item_Size.f k l) ((szI l : Nat) : Int) := by
  unfold item_Size.f
  exact Ev.eq (size_l0 l hl hs l.length 0 0 (by omega) (by omega)) (by rw [List.drop_zero, Nat.zero_add])
def aI : Item := ⟨⟨#[97]⟩, ⟨#[]⟩, 1, ⟨#[]⟩, 0, ⟨1, 1, 0⟩⟩
def bI : Item := ⟨⟨#[97]⟩, ⟨#[]⟩, 1, ⟨#[]⟩, 0, ⟨0, 2, 0⟩⟩
theorem awake_normI : normL [aI, bI, aI] = [bI, aI] := normL_eq (by
  have h : cmpI bI aI < 0 := by unfold cmpI cmpB; simp only [toList_bl]; decide
  have h2 : ¬ bI.f5 = aI.f5 := by decide
  unfold UpI
  simp [h, h2]) (fun x => by
  have h1 : cmpI aI aI ≤ 0 := le_reflI _
  have h2 : cmpI bI bI ≤ 0 := le_reflI _
  have h3 : aI.f5 ≠ bI.f5 := by decide
  simp only [List.mem_cons, List.not_mem_nil, or_false]
  constructor
  · rintro (rfl | rfl)
    · refine ⟨.inr (.inl rfl), ?_⟩
      rintro y (rfl | rfl | rfl) e
      · exact absurd e h3
      · exact h2
      · exact absurd e h3
    · refine ⟨.inl rfl, ?_⟩
      rintro y (rfl | rfl | rfl) e
      · exact h1
      · exact absurd e.symm h3
      · exact h1
  · rintro ⟨h | h | h, _⟩
    · exact .inr h
    · exact .inl h
    · exact .inr h)
theorem zkey_ev (key : ByteArray) : Ev (fun k => zone_Key.f k key) (decide (bl key ≠ []) && pfx key) := by
  unfold zone_Key.f
  rw [toList_bl]
  by_cases c : bl key = []
  · exact Ev.pos c (Ev.eq (Ev.const _) (by simp [c]))
  · exact Ev.neg c (Ev.bind (prefix_ev key) (Ev.eq (Ev.const _) (by simp [c])))
theorem awakeI_ev : Ev (fun k => butterylaw09_awake.f k) true := by
  unfold butterylaw09_awake.f
  have e := norm_val [aI, bI, aI] (by decide)
  rw [awake_normI] at e
  refine Ev.bindc e (Ev.bind (sameI_ev _ _ (by decide)) (Ev.pos (by decide) (Ev.bind (v := true) ?_ (Ev.pos rfl (Ev.bind (v := 50) ?_ (Ev.const _))))))
  · unfold item_Formed.f
    refine Ev.bind (zkey_ev _) (Ev.pos (by decide) (Ev.pos (by rw [toList_bl]; rfl) (Ev.succ ?_)))
    simp only [item_Formed.j0]
    refine Ev.neg (by decide) (Ev.pos (by first | trivial | decide) (Ev.succ ?_))
    simp only [item_Formed.j1]
    exact Ev.pos (by decide) (Ev.pos (by first | trivial | decide) (Ev.pos (by decide) (Ev.pos (by decide) (Ev.pos (by decide) (Ev.pos (by decide) (Ev.pos (by decide) (Ev.eq (Ev.const _) (by decide))))))))
  · exact size_ev [bI, aI] (by decide) (by decide)
end Go.Proofs.Ytciiodbkhilkmaa.F
