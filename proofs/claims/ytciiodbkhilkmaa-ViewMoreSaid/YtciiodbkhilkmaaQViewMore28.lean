/- ViewMore, part 28: PSet. -/
import Derived.Test.YtciiodbkhilkmaaProg
import Derived.Below
import Derived.Deep.Draws
import Derived.Deep.AppendLies
import Derived.Maps.AppendAt
import Derived.OwnWalk
import Derived.Laws.BytesArg
import Derived.Laws.MakeOwn
import Derived.Laws.OwnMore
import Derived.Deep.OwnRows
import Derived.Tactics
import Derived.Lib.ConvBytes
import Derived.Laws.Slices
import Derived.WalkKit
import Derived.KernelRfl
import Derived.RowKit3
import Derived.Deep.LoopGhost
import Derived.Deep.QuietTactic
import Derived.BigQuiet
import Derived.WideLaws
import Derived.Deep.DeepCutAuto
import Derived.Deep.CutBlock
import Derived.Deep.RegionHeld3
import Derived.Laws.Rows
import Derived.Lib.AppendStr
import Derived.ArgAppend
import Derived.Laws.IdiomCopy
import Derived.OrdersHeld
import Derived.Laws.BitsLemmas
import Derived.RowKit
import Derived.Shelf.SlGeneric
import Derived.Shelf.Sort.Plain
import Derived.Shelf.Slices.CompactS
import Derived.Shelf.Slices.In.SortNone
import Derived.Shelf.SlSortCmp.NoneTotal
import Derived.Ground.NamesProg
import Derived.Ground.SlsfProg
import Derived.Shelf.Abstract
import Derived.Lib.SliceRun
import Derived.Laws.StructEq
import Derived.Lib.Strings
import Derived.Test.YtciiodbkhilkmaaQViewMore0
import Derived.Test.YtciiodbkhilkmaaQViewMore21
import Derived.Test.YtciiodbkhilkmaaQViewMore22
import Derived.Test.YtciiodbkhilkmaaQViewMore23
import Derived.Test.YtciiodbkhilkmaaQViewMore24
import Derived.Test.YtciiodbkhilkmaaQViewMore25
import Derived.Test.YtciiodbkhilkmaaQViewMore26
import Derived.Test.YtciiodbkhilkmaaQViewMore27
namespace Go.Proofs.Ytciiodbkhilkmaa.F
set_option linter.unusedVariables false
set_option linter.unusedSimpArgs false
open Go.Lib
def Up (l : List ByteArray) : Prop := l.Pairwise fun a b => bl a < bl b
theorem bl_inj {a b : ByteArray} (h : bl a = bl b) : a = b := by rw [← mkB_bl a, h, mkB_bl]
theorem blt_of {x y : List UInt8} (h : x ≤ y) (hne : x ≠ y) : x < y := Decidable.byContradiction fun c => hne (List.le_antisymm h (List.not_lt.1 c))
theorem up_ext : ∀ {l m : List ByteArray}, Up l → Up m → (∀ x, x ∈ l ↔ x ∈ m) → l = m
  | [], [], _, _, _ => rfl
  | [], b :: m, _, _, h => absurd ((h b).2 (.head _)) (by simp)
  | a :: l, [], _, _, h => absurd ((h a).1 (.head _)) (by simp)
  | a :: l, b :: m, hl, hm, h => by
    obtain ⟨ha, hl'⟩ := List.pairwise_cons.1 hl
    obtain ⟨hb, hm'⟩ := List.pairwise_cons.1 hm
    have e : a = b := by
      rcases List.mem_cons.1 ((h a).1 (.head _)) with e | e
      · exact e
      rcases List.mem_cons.1 ((h b).2 (.head _)) with e' | e'
      · exact e'.symm
      exact absurd (List.lt_trans (hb _ e) (ha _ e')) (List.lt_irrefl _)
    subst e
    congr 1
    refine up_ext hl' hm' fun x => ⟨fun hx => ?_, fun hx => ?_⟩
    · rcases List.mem_cons.1 ((h x).1 (.tail _ hx)) with e | e
      · subst e
        exact absurd (ha _ hx) (List.lt_irrefl _)
      · exact e
    · rcases List.mem_cons.1 ((h x).2 (.tail _ hx)) with e | e
      · subst e
        exact absurd (hb _ hx) (List.lt_irrefl _)
      · exact e
theorem compact_up (d : Array (List UInt8)) (hs : ∀ i j, i < j → j < d.size → d[i]! ≤ d[j]!) : ∀ m, m ≤ d.size → (compactUpTo d m).Pairwise (· < ·) ∧ ∀ x, x ∈ compactUpTo d m ↔ ∃ j, j < m ∧ d[j]! = x
  | 0, _ => by simp [compactUpTo]
  | m + 1, hm => by
    obtain ⟨h1, h2⟩ := compact_up d hs m (by omega)
    rw [compactUpTo_succ]
    have hle : ∀ x ∈ compactUpTo d m, 0 < m ∧ x ≤ d[m - 1]! := fun x hx => by
      obtain ⟨j, hj, rfl⟩ := (h2 x).1 hx
      refine ⟨by omega, ?_⟩
      by_cases e : j = m - 1
      · rw [e]; exact List.le_refl _
      · exact hs _ _ (by omega) (by omega)
    by_cases hk : keeps d m = true
    · rw [if_pos hk]
      refine ⟨List.pairwise_append.2 ⟨h1, by simp, fun x hx y hy => ?_⟩, fun x => ?_⟩
      · obtain rfl := List.mem_singleton.1 hy
        obtain ⟨h0, hx'⟩ := hle x hx
        have hne : d[m - 1]! ≠ d[m]! := fun e => by
          rw [keeps_neg h0 e.symm] at hk
          exact absurd hk (by simp)
        exact Std.lt_of_le_of_lt hx' (blt_of (hs _ _ (by omega) (by omega)) hne)
      · rw [List.mem_append, h2, List.mem_singleton]
        constructor
        · rintro (⟨j, hj, e⟩ | rfl)
          · exact ⟨j, by omega, e⟩
          · exact ⟨m, by omega, rfl⟩
        · rintro ⟨j, hj, e⟩
          by_cases h : j = m
          · subst h; exact .inr e.symm
          · exact .inl ⟨j, by omega, e⟩
    · rw [if_neg hk, List.append_nil]
      refine ⟨h1, fun x => ?_⟩
      rw [h2]
      constructor
      · rintro ⟨j, hj, e⟩
        exact ⟨j, by omega, e⟩
      · rintro ⟨j, hj, e⟩
        by_cases h : j = m
        · subst h
          have h0 : 0 < j := by
            rcases Nat.eq_zero_or_pos j with e | e
            · subst e; exact absurd (by simp [keeps]) hk
            · exact e
          refine ⟨j - 1, by omega, ?_⟩
          rw [← e]
          exact Decidable.byContradiction fun c => hk (keeps_pos (fun e => c e.symm))
        · exact ⟨j, by omega, e⟩
theorem sorted_get (l : List (List UInt8)) : ∀ i j, i < j → j < ((l.mergeSort fun x y => decide (x ≤ y)).toArray).size → ((l.mergeSort fun x y => decide (x ≤ y)).toArray)[i]! ≤ ((l.mergeSort fun x y => decide (x ≤ y)).toArray)[j]! := by
  intro i j hij hj
  have h := List.pairwise_mergeSort (le := fun x y : List UInt8 => decide (x ≤ y)) (fun a b c h1 h2 => by
    simp only [decide_eq_true_eq] at *
    exact List.le_trans h1 h2) (fun a b => by
    simp only [Bool.or_eq_true, decide_eq_true_eq]
    exact List.le_total a b) l
  have h3 := List.pairwise_iff_getElem.1 h i j (by simp at hj ⊢; omega) (by simpa using hj) hij
  simp only [decide_eq_true_eq] at h3
  have hi : i < ((l.mergeSort fun x y => decide (x ≤ y)).toArray).size := by omega
  rw [getElem!_pos _ i hi, getElem!_pos _ j hj]
  simpa using h3
theorem onceL_up (l : List ByteArray) : Up (onceL l) := by
  unfold Up onceL
  rw [List.pairwise_map]
  exact (compact_up _ (sorted_get _) _ (by simp)).1
theorem onceL_mem (l : List ByteArray) (x : ByteArray) : x ∈ onceL l ↔ x ∈ l := by
  unfold onceL
  rw [List.mem_map]
  constructor
  · rintro ⟨a, ha, rfl⟩
    obtain ⟨j, hj, rfl⟩ := ((compact_up _ (sorted_get _) _ (by simp)).2 a).1 ha
    have hm : ((l.map bl).mergeSort fun x y => decide (x ≤ y)).toArray[j]! ∈ l.map bl := by
      rw [getElem!_pos _ j (by simpa using hj)]
      exact (List.mergeSort_perm _ _).mem_iff.1 (List.getElem_mem _)
    obtain ⟨y, hy, e⟩ := List.mem_map.1 hm
    rw [← e, mkB_bl]
    exact hy
  · intro hx
    refine ⟨bl x, ?_, mkB_bl x⟩
    refine ((compact_up _ (sorted_get _) _ (by simp)).2 _).2 ?_
    have hm : bl x ∈ (l.map bl).mergeSort fun x y => decide (x ≤ y) := (List.mergeSort_perm _ _).mem_iff.2 (List.mem_map_of_mem hx)
    obtain ⟨j, hj, e⟩ := List.getElem_of_mem hm
    exact ⟨j, hj, by rw [getElem!_pos _ j (by simpa using hj)]; simpa using e⟩
theorem onceL_eq {l m : List ByteArray} (hm : Up m) (h : ∀ x, x ∈ l ↔ x ∈ m) : onceL l = m := up_ext (onceL_up l) hm fun x => (onceL_mem l x).trans (h x)
theorem onceL_congr {l m : List ByteArray} (h : ∀ x, x ∈ l ↔ x ∈ m) : onceL l = onceL m := onceL_eq (onceL_up m) fun x => (h x).trans (onceL_mem m x).symm
theorem onceL_self {l : List ByteArray} (h : Up l) : onceL l = l := onceL_eq h fun _ => Iff.rfl
theorem Up.filter {l : List ByteArray} (h : Up l) (p : ByteArray → Bool) : Up (l.filter p) := List.Pairwise.filter _ h
theorem onceL_len (l : List ByteArray) : (onceL l).length ≤ l.length := by
  unfold onceL
  rw [List.length_map]
  refine Nat.le_trans (compact_le _) ?_
  simp
end Go.Proofs.Ytciiodbkhilkmaa.F
