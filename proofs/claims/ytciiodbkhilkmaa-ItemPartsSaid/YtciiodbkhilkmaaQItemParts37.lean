/- ItemParts, part 37: PItemParts. -/
import Derived.Lib.SliceRun
import Derived.Sort.Walk0
import Derived.Lib.Strings
import Derived.Shelf.Abstract
import Derived.Shelf.SlGeneric
import Derived.Shelf.Sort.Plain
import Derived.Shelf.Slices.CompactS
import Derived.Shelf.Slices.In.SortNone
import Derived.Shelf.SlSortCmp.NoneTotal
import Derived.Ground.NamesProg
import Derived.Ground.SlsfProg
import Derived.Test.YtciiodbkhilkmaaProg
import Derived.OrdersHeld
import Derived.Deep.RegionHeld3
import Derived.Laws.BitsLemmas
import Derived.RowKit
import Derived.Below
import Derived.Deep.Draws
import Derived.Deep.AppendLies
import Derived.Maps.AppendAt
import Derived.OwnWalk
import Derived.Laws.BytesArg
import Derived.Laws.MakeOwn
import Derived.Laws.OwnMore
import Derived.Deep.OwnRows
import Derived.Tactics
import Derived.Lib.ConvBytes
import Derived.Laws.Slices
import Derived.WalkKit
import Derived.KernelRfl
import Derived.RowKit3
import Derived.Deep.LoopGhost
import Derived.Deep.QuietTactic
import Derived.BigQuiet
import Derived.WideLaws
import Derived.Deep.DeepCutAuto
import Derived.Deep.CutBlock
import Derived.Laws.Rows
import Derived.Lib.AppendStr
import Derived.ArgAppend
import Derived.Laws.IdiomCopy
import Derived.StillTailTactics
import Derived.Sort.Grow
import Derived.MapKept
import Derived.Laws.StructEq
import Derived.Test.YtciiodbkhilkmaaQItemParts0
import Derived.Test.YtciiodbkhilkmaaQItemParts1
import Derived.Test.YtciiodbkhilkmaaQItemParts2
import Derived.Test.YtciiodbkhilkmaaQItemParts3
import Derived.Test.YtciiodbkhilkmaaQItemParts4
import Derived.Test.YtciiodbkhilkmaaQItemParts5
import Derived.Test.YtciiodbkhilkmaaQItemParts6
import Derived.Test.YtciiodbkhilkmaaQItemParts7
import Derived.Test.YtciiodbkhilkmaaQItemParts8
import Derived.Test.YtciiodbkhilkmaaQItemParts9
import Derived.Test.YtciiodbkhilkmaaQItemParts10
import Derived.Test.YtciiodbkhilkmaaQItemParts11
import Derived.Test.YtciiodbkhilkmaaQItemParts12
import Derived.Test.YtciiodbkhilkmaaQItemParts13
import Derived.Test.YtciiodbkhilkmaaQItemParts14
import Derived.Test.YtciiodbkhilkmaaQItemParts15
import Derived.Test.YtciiodbkhilkmaaQItemParts16
import Derived.Test.YtciiodbkhilkmaaQItemParts17
import Derived.Test.YtciiodbkhilkmaaQItemParts18
import Derived.Test.YtciiodbkhilkmaaQItemParts19
import Derived.Test.YtciiodbkhilkmaaQItemParts20
import Derived.Test.YtciiodbkhilkmaaQItemParts21
import Derived.Test.YtciiodbkhilkmaaQItemParts22
import Derived.Test.YtciiodbkhilkmaaQItemParts23
import Derived.Test.YtciiodbkhilkmaaQItemParts24
import Derived.Test.YtciiodbkhilkmaaQItemParts25
import Derived.Test.YtciiodbkhilkmaaQItemParts26
import Derived.Test.YtciiodbkhilkmaaQItemParts27
import Derived.Test.YtciiodbkhilkmaaQItemParts28
import Derived.Test.YtciiodbkhilkmaaQItemParts29
import Derived.Test.YtciiodbkhilkmaaQItemParts30
import Derived.Test.YtciiodbkhilkmaaQItemParts31
import Derived.Test.YtciiodbkhilkmaaQItemParts32
import Derived.Test.YtciiodbkhilkmaaQItemParts33
import Derived.Test.YtciiodbkhilkmaaQItemParts34
import Derived.Test.YtciiodbkhilkmaaQItemParts35
import Derived.Test.YtciiodbkhilkmaaQItemParts36
namespace Go.Proofs.Ytciiodbkhilkmaa.F
set_option linter.unusedVariables false
set_option linter.unusedSimpArgs false
open Go.RowKit Go.Proofs.YtciiodbkhilkmaaW.PrintWords Go.Proofs.YtciiodbkhilkmaaW.PrintLast Go.Proofs.YtciiodbkhilkmaaW.PrintMore
theorem normL_len2 (l : List Item) : (normL l).length ≤ l.length := by
  have h : ∀ (s : List Item) (seen : List S24), (keepS stepN seen s).1.length ≤ s.length := fun s => by
    induction s with
    | nil => intro seen; simp [keepS]
    | cons x s ih =>
      intro seen
      unfold keepS
      split
      · have := ih (stepN seen x).2; simp only [List.length_cons]; omega
      · have := ih (stepN seen x).2; simp only [List.length_cons]; omega
  have := h (sortI l) []
  have e : (sortI l).length = l.length := (List.mergeSort_perm l _).length_eq
  unfold normL
  omega
theorem itemWithout_val (l : List Item) (d : List S24) (hl : l.length < 1000000) : item_Without.f l d = some (l.filter fun x => !dotIn d x.f5) := by
  unfold item_Without.f
  rw [if_pos (by unfold lim; omega)]
theorem itemOf_val (l : List Item) (key : ByteArray) (hl : l.length < 1000000) : item_Of.f l key = some (l.filter fun x => x.f0.toList == key.toList) := by
  unfold item_Of.f
  rw [if_pos (by unfold lim; omega)]
theorem keys_end (acc : List ByteArray) (h : acc.length < 1000000) : ((slices_Sort_string_string.f acc).bind fun t769 => ((slices_Compact_string_string.f t769).bind fun t770 => (some t770))) = some (onceL acc) := by
  unfold slices_Sort_string_string.f
  rw [if_pos (by unfold lim; omega), Option.bind_some]
  unfold slices_Compact_string_string.f
  rw [if_pos (by rw [List.length_map, List.length_mergeSort, List.length_map]; unfold lim; omega), Option.bind_some, List.map_map]
  have e : (bl ∘ mkB) = id := funext bl_mkB
  rw [e, List.map_id]
  rfl
theorem keys_l0 (l : List Item) (hl : l.length < 100000) : ∀ (n i : Nat) (acc : List ByteArray), l.length = i + n → acc.length ≤ i → Ev (fun k => item_Keys.l0 k acc l (l.length : Int) (i : Int)) (onceL (acc ++ (l.drop i).map fun x => x.f0))
  | 0, i, acc, h, ha => Ev.succ (by
    simp only [item_Keys.l0]
    refine Ev.neg (by omega) (Ev.of ?_)
    rw [keys_end acc (by omega), List.drop_of_length_le (by omega), List.map_nil, List.append_nil])
  | n + 1, i, acc, h, ha => Ev.succ (by
    simp only [item_Keys.l0]
    have hi : i < l.length := by omega
    refine Ev.pos (by omega) (Ev.pos (by omega) (Ev.pos (by omega) (Ev.pos (by omega) ?_)))
    rw [rdI_get _ _ hi, wrap_add i (by omega), List.drop_eq_getElem_cons hi]
    exact Ev.eq (keys_l0 l hl n (i + 1) _ (by omega) (by simp; omega)) (by rw [List.append_assoc]; rfl))
theorem keys_ev (l : List Item) (hl : l.length < 100000) : Ev (fun k => item_Keys.f k l) (onceL (l.map fun x => x.f0)) := by
  unfold item_Keys.f
  exact Ev.eq (keys_l0 l hl l.length 0 [] (by omega) (by simp)) (by simp)
theorem cmpI_key {x y : Item} (h : bl x.f0 < bl y.f0) : cmpI x y < 0 := by
  have h0 : cmpB x.f0 y.f0 < 0 := (cmpB_neg _ _).2 (by rw [toList_bl, toList_bl]; exact h)
  show orZ (cmpB x.f0 y.f0 :: _) < 0
  unfold orZ
  rw [if_neg (by omega)]
  exact h0
theorem parts_all {n : List Item} (hn : UpI n) : ((onceL (n.map fun x => x.f0)).flatMap fun key => n.filter fun x => x.f0.toList == key.toList) = n := by
  have hk : ∀ (x : Item) (key : ByteArray), x ∈ (n.filter fun x => x.f0.toList == key.toList) ↔ x ∈ n ∧ x.f0 = key := fun x key => by
    rw [List.mem_filter, beq_iff_eq, toList_bl, toList_bl]
    exact ⟨fun ⟨a, b⟩ => ⟨a, bl_inj b⟩, fun ⟨a, b⟩ => ⟨a, by rw [b]⟩⟩
  refine upI_ext ?_ hn fun x => ?_
  · refine List.pairwise_flatMap.2 ⟨fun key _ => UpI.filter hn _, List.Pairwise.imp (fun {k1 k2} h x hx y hy => ?_) (onceL_up _)⟩
    obtain ⟨hx, ex⟩ := (hk x k1).1 hx
    obtain ⟨hy, ey⟩ := (hk y k2).1 hy
    refine ⟨cmpI_key (by rw [ex, ey]; exact h), fun e => ?_⟩
    have := upI_dot hn x hx y hy e
    subst this
    rw [ex] at ey
    subst ey
    exact absurd h (List.lt_irrefl _)
  · rw [List.mem_flatMap]
    constructor
    · rintro ⟨key, _, hx⟩
      exact ((hk x key).1 hx).1
    · intro hx
      exact ⟨x.f0, (onceL_mem _ _).2 (List.mem_map.2 ⟨x, hx, rfl⟩), (hk x _).2 ⟨hx, rfl⟩⟩
theorem szI_append : ∀ l m : List Item, szI (l ++ m) = szI l + szI m
  | [], m => by simp [szI]
  | x :: l, m => by simp only [List.cons_append, szI, szI_append l m]; omega
theorem szI_le : ∀ l : List Item, (∀ x ∈ l, x.f0.size ≤ 300 ∧ x.f1.size ≤ 300 ∧ x.f3.size ≤ 300) → szI l ≤ l.length * 1000
  | [], _ => by simp [szI]
  | x :: l, h => by
    have h1 := szI_le l fun y hy => h y (.tail _ hy)
    obtain ⟨a, b, c⟩ := h x (.head _)
    simp only [szI, List.length_cons]
    omega
theorem small_filter (l : List Item) (p : Item → Bool) (h : l.length < 1000000) : (l.filter p).length < 1000000 := Nat.lt_of_le_of_lt (List.length_filter_le _ _) h
theorem parts_l0 (dots : List S24) (z : List ByteArray) (n : List Item) (hl : n.length ≤ 60) (hs : ∀ x ∈ n, x.f0.size ≤ 300 ∧ x.f1.size ≤ 300 ∧ x.f3.size ≤ 300) (K : List ByteArray) (hK : K.length ≤ 60) :
    ∀ (m i : Nat) (acc : List Item), K.length = i + m → (acc ++ (K.drop i).flatMap fun key => n.filter fun x => x.f0.toList == key.toList) = n →
    Ev (fun k => butterylaw09_ItemParts.l0 k dots z n (n.filter fun x => !dotIn dots x.f5) (n.filter fun x => coversL z x.f0) acc ((szI acc : Nat) : Int) K (i : Int)) true
  | 0, i, acc, h, ha => Ev.succ (by
    simp only [butterylaw09_ItemParts.l0]
    rw [List.drop_of_length_le (by omega), List.flatMap_nil, List.append_nil] at ha
    subst ha
    have f1 := List.length_filter_le (fun x : Item => !dotIn dots x.f5) acc
    have f2 := List.length_filter_le (fun x : Item => coversL z x.f0) acc
    refine Ev.neg (by omega) (Ev.bind (sameI_ev _ _ (by omega)) (Ev.pos (by simp) (Ev.bind (size_ev acc (by omega) hs) (Ev.pos rfl ?_))))
    refine Ev.bindc (under_val _ _ (small_filter _ _ (by omega))) (Ev.bindc (itemWithout_val _ _ (small_filter _ _ (by omega))) ?_)
    refine Ev.bind (sameI_ev _ _ (small_filter _ _ (small_filter _ _ (by omega)))) (Ev.eq (Ev.const _) ?_)
    · rw [decide_eq_true_iff, List.filter_filter, List.filter_filter]
      congr 1
      funext x
      exact Bool.and_comm _ _)
  | m + 1, i, acc, h, ha => Ev.succ (by
    simp only [butterylaw09_ItemParts.l0]
    have hi : i < K.length := by omega
    rw [List.drop_eq_getElem_cons hi, List.flatMap_cons, ← List.append_assoc] at ha
    refine Ev.pos (by omega) (Ev.pos (by omega) ?_)
    rw [rdOf_get _ _ _ hi, wrap_add i (by omega)]
    refine Ev.bindc (itemOf_val n _ (by omega)) ?_
    have hlen := congrArg List.length ha
    rw [List.length_append, List.length_append] at hlen
    have hsub : ∀ x ∈ n.filter (fun x => x.f0.toList == K[i].toList), x.f0.size ≤ 300 ∧ x.f1.size ≤ 300 ∧ x.f3.size ≤ 300 := fun x hx => hs x (List.mem_filter.1 hx).1
    have hacc : ∀ x ∈ acc, x.f0.size ≤ 300 ∧ x.f1.size ≤ 300 ∧ x.f3.size ≤ 300 := fun x hx => hs x (by rw [← ha]; exact List.mem_append_left _ (List.mem_append_left _ hx))
    have b1 := szI_le _ hsub
    have b2 := szI_le _ hacc
    refine Ev.pos (by omega) (Ev.bind (size_ev _ (Nat.lt_of_le_of_lt (List.length_filter_le _ _) (by omega)) hsub) ?_)
    have e : wrap64 (((szI acc : Nat) : Int) + ((szI (n.filter fun x => x.f0.toList == K[i].toList) : Nat) : Int)) = ((szI (acc ++ n.filter fun x => x.f0.toList == K[i].toList) : Nat) : Int) := by
      rw [szI_append, ← Int.natCast_add]
      exact wrap_nat _ (by omega)
    rw [e]
    exact parts_l0 dots z n hl hs K hK m (i + 1) _ (by omega) ha)
theorem parts_law (l : List Item) (dots : List S24) (z : List ByteArray) : Ev (fun k => butterylaw09_ItemParts.f k l dots z) true := by
  unfold butterylaw09_ItemParts.f
  refine Ev.bind awakeI_ev (Ev.pos rfl (Ev.bind (shortI_ev l) ?_))
  have out : Ev (fun k => butterylaw09_ItemParts.j0 k l dots z true) true := Ev.succ (by
    simp only [butterylaw09_ItemParts.j0]
    exact Ev.pos (by trivial) (Ev.const _))
  by_cases hl : shortI l = true
  rotate_left
  · exact Ev.neg hl out
  refine Ev.pos hl (Ev.bind (short_ev z) ?_)
  by_cases hz : shortB z = true
  rotate_left
  · exact Ev.neg hz out
  refine Ev.pos hz ?_
  by_cases hd : (dots.length : Int) > 60
  · rw [decide_eq_true hd]; exact out
  rw [decide_eq_false hd]
  obtain ⟨ll, hs⟩ := shortI_iff.1 hl
  have hn := normL_len2 l
  have hs' : ∀ x ∈ normL l, x.f0.size ≤ 300 ∧ x.f1.size ≤ 300 ∧ x.f3.size ≤ 300 := fun x hx => hs x (normL_mem.1 hx).1
  have f1 := List.length_filter_le (fun x : Item => !dotIn dots x.f5) (normL l)
  have f2 := List.length_filter_le (fun x : Item => coversL z x.f0) (normL l)
  have e1 : normL ((normL l).filter fun x => !dotIn dots x.f5) = (normL l).filter fun x => !dotIn dots x.f5 := normL_self ((normL_up l).filter _)
  have e2 : normL ((normL l).filter fun x => coversL z x.f0) = (normL l).filter fun x => coversL z x.f0 := normL_self ((normL_up l).filter _)
  refine Ev.succ ?_
  simp only [butterylaw09_ItemParts.j0]
  refine Ev.neg (by simp) (Ev.bindc (norm_val l (by omega)) (Ev.bindc (itemWithout_val _ _ (by omega)) (Ev.bindc (under_val _ _ (by omega)) (Ev.bindc (norm_val _ (small_filter _ _ (by omega))) ?_))))
  rw [e1]
  refine Ev.bind (sameI_ev _ _ (small_filter _ _ (by omega))) (Ev.pos (by simp) (Ev.bindc (norm_val _ (small_filter _ _ (by omega))) ?_))
  rw [e2]
  refine Ev.bind (sameI_ev _ _ (small_filter _ _ (by omega))) (Ev.succ ?_)
  simp only [butterylaw09_ItemParts.j1]
  have hk := onceL_len ((normL l).map fun x => x.f0)
  rw [List.length_map] at hk
  refine Ev.neg (by simp) (Ev.bind (keys_ev (normL l) (by omega)) ?_)
  exact parts_l0 dots z (normL l) (by omega) hs' (onceL ((normL l).map fun x => x.f0)) (Nat.le_trans hk (by omega)) _ 0 [] (Nat.zero_add _).symm (by rw [List.nil_append, List.drop_zero]; exact parts_all (normL_up l))
end Go.Proofs.Ytciiodbkhilkmaa.F
