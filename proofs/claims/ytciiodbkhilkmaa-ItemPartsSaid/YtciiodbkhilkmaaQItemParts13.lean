/- ItemParts, part 13: GOrder. -/
import Derived.Lib.SliceRun
import Derived.Lib.Strings
import Derived.Shelf.Abstract
import Derived.Shelf.SlGeneric
import Derived.Shelf.Sort.Plain
import Derived.Shelf.Slices.CompactS
import Derived.Shelf.Slices.In.SortNone
import Derived.Shelf.SlSortCmp.NoneTotal
import Derived.Ground.NamesProg
import Derived.Ground.SlsfProg
import Derived.Test.YtciiodbkhilkmaaProg
import Derived.OrdersHeld
import Derived.Deep.RegionHeld3
import Derived.Laws.BitsLemmas
import Derived.RowKit
import Derived.WalkKit
import Derived.Below
import Derived.Deep.Draws
import Derived.Deep.AppendLies
import Derived.Maps.AppendAt
import Derived.OwnWalk
import Derived.Laws.BytesArg
import Derived.Laws.MakeOwn
import Derived.Laws.OwnMore
import Derived.Deep.OwnRows
import Derived.Tactics
import Derived.Lib.ConvBytes
import Derived.Laws.Slices
import Derived.KernelRfl
import Derived.RowKit3
import Derived.Deep.LoopGhost
import Derived.Deep.QuietTactic
import Derived.BigQuiet
import Derived.WideLaws
import Derived.Deep.DeepCutAuto
import Derived.Deep.CutBlock
import Derived.Laws.Rows
import Derived.Lib.AppendStr
import Derived.ArgAppend
import Derived.Laws.IdiomCopy
import Derived.StillTailTactics
import Derived.Sort.Grow
import Derived.Laws.StructEq
import Derived.Test.YtciiodbkhilkmaaQItemParts0
import Derived.Test.YtciiodbkhilkmaaQItemParts1
import Derived.Test.YtciiodbkhilkmaaQItemParts2
import Derived.Test.YtciiodbkhilkmaaQItemParts3
import Derived.Test.YtciiodbkhilkmaaQItemParts4
import Derived.Test.YtciiodbkhilkmaaQItemParts5
import Derived.Test.YtciiodbkhilkmaaQItemParts6
import Derived.Test.YtciiodbkhilkmaaQItemParts7
import Derived.Test.YtciiodbkhilkmaaQItemParts8
import Derived.Test.YtciiodbkhilkmaaQItemParts9
import Derived.Test.YtciiodbkhilkmaaQItemParts10
import Derived.Test.YtciiodbkhilkmaaQItemParts11
import Derived.Test.YtciiodbkhilkmaaQItemParts12
namespace Go.Proofs.Ytciiodbkhilkmaa.F
set_option linter.unusedVariables false
set_option linter.unusedSimpArgs false
open Go.RowKit Go.Sort Go.Proofs.YtciiodbkhilkmaaW.PrintWords Go.Proofs.YtciiodbkhilkmaaW.PrintLast Go.Proofs.YtciiodbkhilkmaaW.PrintMore
structure GoodC {α : Type} (c : α → α → Int) : Prop where
  anti : ∀ x y, c x y < 0 ↔ 0 < c y x
  trans : ∀ x y z, c x y ≤ 0 → c y z ≤ 0 → c x z ≤ 0
section
variable {α β : Type}
theorem GoodC.zero {c : α → α → Int} (h : GoodC c) {x y : α} : c x y = 0 ↔ c y x = 0 := by
  have h1 := h.anti x y
  have h2 := h.anti y x
  omega
theorem GoodC.on {c : β → β → Int} (h : GoodC c) (f : α → β) : GoodC fun x y => c (f x) (f y) := ⟨fun _ _ => h.anti _ _, fun _ _ _ => h.trans _ _ _⟩
theorem GoodC.lex {c d : α → α → Int} (h : GoodC c) (k : GoodC d) : GoodC fun x y => if c x y = 0 then d x y else c x y := by
  refine ⟨fun x y => ?_, fun x y z h1 h2 => ?_⟩
  · have a1 := h.anti x y
    have a2 := h.anti y x
    have a3 := k.anti x y
    have a4 := k.anti y x
    show (if c x y = 0 then d x y else c x y) < 0 ↔ 0 < (if c y x = 0 then d y x else c y x)
    split <;> split <;> omega
  · have h1 : (if c x y = 0 then d x y else c x y) ≤ 0 := h1
    have h2 : (if c y z = 0 then d y z else c y z) ≤ 0 := h2
    show (if c x z = 0 then d x z else c x z) ≤ 0
    have b1 : c x y ≤ 0 := by split at h1 <;> omega
    have b2 : c y z ≤ 0 := by split at h2 <;> omega
    have b3 := h.trans x y z b1 b2
    by_cases e : c x z = 0
    · rw [if_pos e]
      have e' := h.zero.1 e
      have c1 := h.trans y z x b2 (by omega)
      have c2 := h.trans z x y (by omega) b1
      have d1 := h.anti x y
      have d2 := h.anti y x
      have d3 := h.anti y z
      have d4 := h.anti z y
      have e1 : c x y = 0 := by omega
      have e2 : c y z = 0 := by omega
      rw [if_pos e1] at h1
      rw [if_pos e2] at h2
      exact k.trans x y z h1 h2
    · rw [if_neg e]
      exact b3
theorem GoodC.swo {c : α → α → Int} (h : GoodC c) : SWO (ltOf c) where
  irrefl x := by
    have := h.anti x x
    unfold ltOf
    simp; omega
  trans x y z h1 h2 := by
    unfold ltOf at *
    simp at *
    have a1 := h.trans x y z (by omega) (by omega)
    have a2 := h.anti y z
    rcases Int.lt_or_le (c x z) 0 with h3 | h3
    · exact h3
    · have e : c x z = 0 := by omega
      have e' := h.zero.1 e
      have := h.trans z x y (by omega) (by omega)
      omega
  ntrans x y z h1 h2 := by
    unfold ltOf at *
    simp at *
    have a1 := h.anti x y
    have a2 := h.anti y z
    have a3 := h.anti x z
    have := h.trans z y x (by omega) (by omega)
    have a4 := h.anti z x
    omega
end
theorem good_cmpZ : GoodC cmpZ := by
  refine ⟨fun x y => ?_, fun x y z => ?_⟩
  · unfold cmpZ; split <;> split <;> (try split) <;> (try split) <;> omega
  · unfold cmpZ; split <;> split <;> split <;> (try split) <;> (try split) <;> (try split) <;> omega
theorem cmpB_neg (a b : ByteArray) : cmpB a b < 0 ↔ a.toList < b.toList := by
  unfold cmpB
  rw [bytesLess_eq, bytesLess_eq]
  by_cases h : a.toList < b.toList
  · simp [h]
  · by_cases h2 : b.toList < a.toList <;> simp [h, h2]
theorem cmpB_pos (a b : ByteArray) : 0 < cmpB a b ↔ b.toList < a.toList := by
  unfold cmpB
  rw [bytesLess_eq, bytesLess_eq]
  by_cases h : a.toList < b.toList
  · have : ¬ b.toList < a.toList := fun h' => List.lt_irrefl _ (List.lt_trans h h')
    simp [h, this]
  · by_cases h2 : b.toList < a.toList <;> simp [h, h2]
theorem bytes_tri (a b : List UInt8) : a < b ∨ a = b ∨ b < a := by
  have h := bytesLess_tri a b
  rw [bytesLess_eq, bytesLess_eq] at h
  by_cases h1 : a < b
  · exact .inl h1
  · by_cases h2 : a = b
    · exact .inr (.inl h2)
    · refine .inr (.inr ?_)
      have h3 : (a == b) = false := beq_eq_false_iff_ne.2 h2
      simp [h1, h3] at h
      exact h
theorem good_cmpB : GoodC cmpB := by
  refine ⟨fun x y => by rw [cmpB_neg, cmpB_pos], fun x y z h1 h2 => ?_⟩
  have h1 : ¬ y.toList < x.toList := fun h => by have := (cmpB_pos x y).2 h; omega
  have h2 : ¬ z.toList < y.toList := fun h => by have := (cmpB_pos y z).2 h; omega
  rcases Int.lt_or_le 0 (cmpB x z) with h3 | h3
  · exfalso
    have h3 := (cmpB_pos x z).1 h3
    rcases bytes_tri x.toList y.toList with a | a | a
    · exact h2 (List.lt_trans h3 a)
    · rw [a] at h3; exact h2 h3
    · exact h1 a
  · exact h3
theorem cmpB_zero (a b : ByteArray) (h : cmpB a b = 0) : a = b := by
  have h1 : ¬ a.toList < b.toList := fun h' => by have := (cmpB_neg a b).2 h'; omega
  have h2 : ¬ b.toList < a.toList := fun h' => by have := (cmpB_pos a b).2 h'; omega
  rcases bytes_tri a.toList b.toList with e | e | e
  · exact absurd e h1
  · have e : a.data.toList = b.data.toList := by rw [← Lib.toList_data, ← Lib.toList_data]; exact e
    cases a; cases b
    congr
    exact Array.toList_inj.1 e
  · exact absurd e h2
theorem cmpZ_zero (a b : Int) (h : cmpZ a b = 0) : a = b := by
  unfold cmpZ at h
  split at h <;> (try split at h) <;> omega
theorem good_cmpI : GoodC cmpI := by
  have h : GoodC fun x y : S26 => orZ [cmpB x.f0 y.f0, cmpB x.f1 y.f1, cmpZ x.f2 y.f2, cmpZ x.f5.f0 y.f5.f0, cmpZ x.f5.f1 y.f5.f1, cmpZ x.f5.f2 y.f5.f2, cmpB x.f3 y.f3, cmpZ x.f4 y.f4] := by
    unfold orZ
    refine (good_cmpB.on fun x : S26 => x.f0).lex ?_
    unfold orZ
    refine (good_cmpB.on fun x : S26 => x.f1).lex ?_
    unfold orZ
    refine (good_cmpZ.on fun x : S26 => x.f2).lex ?_
    unfold orZ
    refine (good_cmpZ.on fun x : S26 => x.f5.f0).lex ?_
    unfold orZ
    refine (good_cmpZ.on fun x : S26 => x.f5.f1).lex ?_
    unfold orZ
    refine (good_cmpZ.on fun x : S26 => x.f5.f2).lex ?_
    unfold orZ
    refine (good_cmpB.on fun x : S26 => x.f3).lex ?_
    unfold orZ
    have h8 := (good_cmpZ.on fun x : S26 => x.f4)
    have e : (fun x y : S26 => if cmpZ x.f4 y.f4 = 0 then orZ [] else cmpZ x.f4 y.f4) = fun x y => cmpZ x.f4 y.f4 := by
      funext x y
      by_cases h : cmpZ x.f4 y.f4 = 0
      · rw [if_pos h, h]; rfl
      · rw [if_neg h]
    rw [e]
    exact h8
  exact h
theorem orZ_zero : ∀ l : List Int, orZ l = 0 → ∀ x ∈ l, x = 0
  | [], _ => by simp
  | y :: l, h => by
    unfold orZ at h
    split at h
    · rename_i hy
      intro x hx
      rcases List.mem_cons.1 hx with rfl | hx
      · exact hy
      · exact orZ_zero l h x hx
    · rename_i hy; exact absurd h hy
theorem cmpI_zero (x y : S26) (h : cmpI x y = 0) : x = y := by
  have hz := orZ_zero _ h
  simp only [List.mem_cons, List.not_mem_nil, or_false, forall_eq_or_imp, forall_eq] at hz
  obtain ⟨h0, h1, h2, h3, h4, h5, h6, h7⟩ := hz
  obtain ⟨a0, a1, a2, a3, a4, ⟨b0, b1, b2⟩⟩ := x
  obtain ⟨c0, c1, c2, c3, c4, ⟨d0, d1, d2⟩⟩ := y
  simp only at *
  rw [cmpB_zero _ _ h0, cmpB_zero _ _ h1, cmpZ_zero _ _ h2, cmpZ_zero _ _ h3, cmpZ_zero _ _ h4, cmpZ_zero _ _ h5, cmpB_zero _ _ h6, cmpZ_zero _ _ h7]
theorem cmpI_total (x y : S26) (h1 : ltOf cmpI x y = false) (h2 : ltOf cmpI y x = false) : x = y := by
  unfold ltOf at h1 h2
  simp at h1 h2
  have a := good_cmpI.anti x y
  have b := good_cmpI.anti y x
  exact cmpI_zero x y (by omega)
end Go.Proofs.Ytciiodbkhilkmaa.F
