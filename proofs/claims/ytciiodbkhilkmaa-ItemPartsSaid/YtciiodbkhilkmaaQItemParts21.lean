/- ItemParts, part 21: PNorm. -/
import Derived.Lib.SliceRun
import Derived.Sort.Walk0
import Derived.Lib.Strings
import Derived.Shelf.Abstract
import Derived.Shelf.SlGeneric
import Derived.Shelf.Sort.Plain
import Derived.Shelf.Slices.CompactS
import Derived.Shelf.Slices.In.SortNone
import Derived.Shelf.SlSortCmp.NoneTotal
import Derived.Ground.NamesProg
import Derived.Ground.SlsfProg
import Derived.Test.YtciiodbkhilkmaaProg
import Derived.OrdersHeld
import Derived.Deep.RegionHeld3
import Derived.Laws.BitsLemmas
import Derived.RowKit
import Derived.WalkKit
import Derived.Below
import Derived.Deep.Draws
import Derived.Deep.AppendLies
import Derived.Maps.AppendAt
import Derived.OwnWalk
import Derived.Laws.BytesArg
import Derived.Laws.MakeOwn
import Derived.Laws.OwnMore
import Derived.Deep.OwnRows
import Derived.Tactics
import Derived.Lib.ConvBytes
import Derived.Laws.Slices
import Derived.KernelRfl
import Derived.RowKit3
import Derived.Deep.LoopGhost
import Derived.Deep.QuietTactic
import Derived.BigQuiet
import Derived.WideLaws
import Derived.Deep.DeepCutAuto
import Derived.Deep.CutBlock
import Derived.Laws.Rows
import Derived.Lib.AppendStr
import Derived.ArgAppend
import Derived.Laws.IdiomCopy
import Derived.StillTailTactics
import Derived.Sort.Grow
import Derived.MapKept
import Derived.Laws.StructEq
import Derived.Test.YtciiodbkhilkmaaQItemParts0
import Derived.Test.YtciiodbkhilkmaaQItemParts1
import Derived.Test.YtciiodbkhilkmaaQItemParts2
import Derived.Test.YtciiodbkhilkmaaQItemParts3
import Derived.Test.YtciiodbkhilkmaaQItemParts4
import Derived.Test.YtciiodbkhilkmaaQItemParts5
import Derived.Test.YtciiodbkhilkmaaQItemParts6
import Derived.Test.YtciiodbkhilkmaaQItemParts7
import Derived.Test.YtciiodbkhilkmaaQItemParts8
import Derived.Test.YtciiodbkhilkmaaQItemParts9
import Derived.Test.YtciiodbkhilkmaaQItemParts10
import Derived.Test.YtciiodbkhilkmaaQItemParts11
import Derived.Test.YtciiodbkhilkmaaQItemParts12
import Derived.Test.YtciiodbkhilkmaaQItemParts13
import Derived.Test.YtciiodbkhilkmaaQItemParts14
import Derived.Test.YtciiodbkhilkmaaQItemParts15
import Derived.Test.YtciiodbkhilkmaaQItemParts16
import Derived.Test.YtciiodbkhilkmaaQItemParts17
import Derived.Test.YtciiodbkhilkmaaQItemParts18
import Derived.Test.YtciiodbkhilkmaaQItemParts19
import Derived.Test.YtciiodbkhilkmaaQItemParts20
namespace Go.Proofs.Ytciiodbkhilkmaa.F
set_option linter.unusedVariables false
set_option linter.unusedSimpArgs false
open Go.RowKit Go.Sort Go.Proofs.YtciiodbkhilkmaaW.PrintWords Go.Proofs.YtciiodbkhilkmaaW.PrintLast Go.Proofs.YtciiodbkhilkmaaW.PrintMore
abbrev Item := S26
theorem lt_irreflI (x : Item) : ¬ cmpI x x < 0 := fun h => by have := (good_cmpI.anti x x).1 h; omega
theorem le_antisymmI {x y : Item} (h : cmpI x y ≤ 0) (h' : cmpI y x ≤ 0) : x = y := cmpI_zero x y (by
  have := good_cmpI.anti x y
  have := good_cmpI.anti y x
  omega)
theorem lt_transI {x y z : Item} (h : cmpI x y < 0) (h' : cmpI y z < 0) : cmpI x z < 0 := by
  have h1 := good_cmpI.trans x y z (by omega) (by omega)
  rcases Int.lt_or_eq_of_le h1 with h2 | h2
  · exact h2
  · obtain rfl := cmpI_zero x z h2
    have := (good_cmpI.anti x y).1 h
    omega
def UpI (l : List Item) : Prop := l.Pairwise fun x y => cmpI x y < 0 ∧ x.f5 ≠ y.f5
theorem upI_ext : ∀ {l m : List Item}, UpI l → UpI m → (∀ x, x ∈ l ↔ x ∈ m) → l = m
  | [], [], _, _, _ => rfl
  | [], b :: m, _, _, h => absurd ((h b).2 (.head _)) (by simp)
  | a :: l, [], _, _, h => absurd ((h a).1 (.head _)) (by simp)
  | a :: l, b :: m, hl, hm, h => by
    obtain ⟨ha, hl'⟩ := List.pairwise_cons.1 hl
    obtain ⟨hb, hm'⟩ := List.pairwise_cons.1 hm
    have e : a = b := by
      rcases List.mem_cons.1 ((h a).1 (.head _)) with e | e
      · exact e
      rcases List.mem_cons.1 ((h b).2 (.head _)) with e' | e'
      · exact e'.symm
      exact absurd (lt_transI (hb _ e).1 (ha _ e').1) (lt_irreflI _)
    subst e
    congr 1
    refine upI_ext hl' hm' fun x => ⟨fun hx => ?_, fun hx => ?_⟩
    · rcases List.mem_cons.1 ((h x).1 (.tail _ hx)) with e | e
      · subst e
        exact absurd (ha _ hx).1 (lt_irreflI _)
      · exact e
    · rcases List.mem_cons.1 ((h x).2 (.tail _ hx)) with e | e
      · subst e
        exact absurd (hb _ hx).1 (lt_irreflI _)
      · exact e
theorem keep_norm : ∀ (l : List Item) (seen : List S24), (l.Pairwise fun x y => cmpI x y ≤ 0) →
    UpI (keepS stepN seen l).1 ∧ ∀ x, x ∈ (keepS stepN seen l).1 ↔ x ∈ l ∧ x.f5 ∉ seen ∧ ∀ y ∈ l, y.f5 = x.f5 → cmpI x y ≤ 0
  | [], seen, _ => ⟨List.Pairwise.nil, fun x => by simp [keepS]⟩
  | a :: l, seen, h => by
    obtain ⟨ha, hl⟩ := List.pairwise_cons.1 h
    have hany : seen.any (dotEq a.f5) = true ↔ a.f5 ∈ seen := by
      rw [List.any_eq_true]
      constructor
      · rintro ⟨d, hd, e⟩; rw [(dotEq_iff _ _).1 e]; exact hd
      · intro hd; exact ⟨_, hd, (dotEq_iff _ _).2 rfl⟩
    by_cases c : a.f5 ∈ seen
    · obtain ⟨h1, h2⟩ := keep_norm l seen hl
      have e : (keepS stepN seen (a :: l)).1 = (keepS stepN seen l).1 := by
        show (if (stepN seen a).1 = true then keepS stepN (stepN seen a).2 l else _).1 = _
        have e2 : stepN seen a = (true, seen) := by unfold stepN seeD; rw [hany.2 c, if_pos rfl]
        rw [e2, if_pos rfl]
      rw [e]
      refine ⟨h1, fun x => ?_⟩
      rw [h2]
      constructor
      · rintro ⟨hx, hs, hm⟩
        refine ⟨.tail _ hx, hs, fun y hy hyx => ?_⟩
        rcases List.mem_cons.1 hy with rfl | hy
        · exact absurd (hyx ▸ c) hs
        · exact hm y hy hyx
      · rintro ⟨hx, hs, hm⟩
        rcases List.mem_cons.1 hx with rfl | hx
        · exact absurd c hs
        · exact ⟨hx, hs, fun y hy => hm y (.tail _ hy)⟩
    · obtain ⟨h1, h2⟩ := keep_norm l (seen ++ [a.f5]) hl
      have e : (keepS stepN seen (a :: l)).1 = a :: (keepS stepN (seen ++ [a.f5]) l).1 := by
        show (if (stepN seen a).1 = true then _ else (a :: (keepS stepN (stepN seen a).2 l).1, (keepS stepN (stepN seen a).2 l).2)).1 = _
        have e2 : stepN seen a = (false, seen ++ [a.f5]) := by
          unfold stepN seeD
          rw [Bool.eq_false_iff.2 (fun h => c (hany.1 h))]
          rfl
        rw [e2]
        rfl
      rw [e]
      refine ⟨List.pairwise_cons.2 ⟨fun y hy => ?_, h1⟩, fun x => ?_⟩
      · obtain ⟨hy1, hy2, _⟩ := (h2 y).1 hy
        have hne : a.f5 ≠ y.f5 := fun e => hy2 (by rw [e]; simp)
        refine ⟨?_, hne⟩
        rcases Int.lt_or_eq_of_le (ha y hy1) with h | h
        · exact h
        · exact absurd (congrArg _ (cmpI_zero _ _ h)) hne
      · rw [List.mem_cons, h2]
        constructor
        · rintro (rfl | ⟨hx, hs, hm⟩)
          · refine ⟨.head _, c, fun y hy _ => ?_⟩
            rcases List.mem_cons.1 hy with rfl | hy
            · have := lt_irreflI y
              have := good_cmpI.anti y y
              omega
            · exact ha y hy
          · refine ⟨.tail _ hx, fun h => hs (List.mem_append_left _ h), fun y hy hyx => ?_⟩
            rcases List.mem_cons.1 hy with rfl | hy
            · exact absurd (by rw [← hyx]; simp) hs
            · exact hm y hy hyx
        · rintro ⟨hx, hs, hm⟩
          rcases List.mem_cons.1 hx with rfl | hx
          · exact .inl rfl
          by_cases e : a.f5 = x.f5
          · exact .inl (le_antisymmI (hm a (.head _) e) (ha x hx))
          · refine .inr ⟨hx, fun h => ?_, fun y hy => hm y (.tail _ hy)⟩
            rcases List.mem_append.1 h with h | h
            · exact hs h
            · exact e (List.mem_singleton.1 h).symm
theorem sortI_sorted (l : List Item) : (sortI l).Pairwise fun x y => cmpI x y ≤ 0 := by
  have h := List.pairwise_mergeSort (le := fun x y : Item => !(ltOf cmpI) y x) (fun a b c h1 h2 => by
    simp only [ltOf, Bool.not_eq_true', decide_eq_false_iff_not] at *
    have := good_cmpI.anti b a
    have := good_cmpI.anti c b
    have := good_cmpI.anti c a
    have := good_cmpI.trans a b c (by omega) (by omega)
    omega) (fun a b => by
    simp only [ltOf, Bool.or_eq_true, Bool.not_eq_true', decide_eq_false_iff_not]
    have := good_cmpI.anti a b
    omega) l
  refine List.Pairwise.imp (fun {x y} h => ?_) h
  simp only [ltOf, Bool.not_eq_true', decide_eq_false_iff_not] at h
  have := good_cmpI.anti y x
  omega
theorem sortI_mem (l : List Item) (x : Item) : x ∈ sortI l ↔ x ∈ l := (List.mergeSort_perm l _).mem_iff
theorem normL_up (l : List Item) : UpI (normL l) := (keep_norm _ [] (sortI_sorted l)).1
theorem normL_mem {l : List Item} {x : Item} : x ∈ normL l ↔ x ∈ l ∧ ∀ y ∈ l, y.f5 = x.f5 → cmpI x y ≤ 0 := by
  have := (keep_norm _ [] (sortI_sorted l)).2 x
  rw [show normL l = (keepS stepN [] (sortI l)).1 from rfl, this, sortI_mem]
  constructor
  · rintro ⟨h1, _, h2⟩
    exact ⟨h1, fun y hy => h2 y ((sortI_mem l y).2 hy)⟩
  · rintro ⟨h1, h2⟩
    exact ⟨h1, by simp, fun y hy => h2 y ((sortI_mem l y).1 hy)⟩
theorem normL_eq {l m : List Item} (hm : UpI m) (h : ∀ x, x ∈ m ↔ x ∈ l ∧ ∀ y ∈ l, y.f5 = x.f5 → cmpI x y ≤ 0) : normL l = m := upI_ext (normL_up l) hm fun x => normL_mem.trans (h x).symm
theorem le_reflI (x : Item) : cmpI x x ≤ 0 := by
  have := good_cmpI.anti x x
  omega
theorem upI_dot : ∀ {m : List Item}, UpI m → ∀ x ∈ m, ∀ y ∈ m, x.f5 = y.f5 → x = y
  | [], _, x, hx, _, _, _ => absurd hx (by simp)
  | a :: m, h, x, hx, y, hy, e => by
    obtain ⟨ha, hm⟩ := List.pairwise_cons.1 h
    rcases List.mem_cons.1 hx with e1 | h1 <;> rcases List.mem_cons.1 hy with e2 | h2
    · rw [e1, e2]
    · exact absurd (e1 ▸ e) (ha y h2).2
    · exact absurd (e2 ▸ e).symm (ha x h1).2
    · exact upI_dot hm x h1 y h2 e
theorem normL_self {m : List Item} (hm : UpI m) : normL m = m := normL_eq hm fun x => ⟨fun hx => ⟨hx, fun y hy e => by rw [upI_dot hm y hy x hx e]; exact le_reflI x⟩, fun h => h.1⟩
theorem UpI.filter {m : List Item} (h : UpI m) (p : Item → Bool) : UpI (m.filter p) := List.Pairwise.filter _ h
end Go.Proofs.Ytciiodbkhilkmaa.F
