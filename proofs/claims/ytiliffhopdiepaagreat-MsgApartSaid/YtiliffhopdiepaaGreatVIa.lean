/- VIa: VPlainI, VI1, VI2. -/
import Derived.Test.YtiliffhopdiepaaGreatVPlain
import Derived.Test.YtiliffhopdiepaaGreatSEnv
import Derived.Test.YtiliffhopdiepaaGreatVFa
/-! Plain law: items in order; a list in its one form. No program in sight. -/
namespace Go.E2.S
open Go Go.E2 Go.RowKit Go.Lib
set_option linter.unusedVariables false
set_option linter.unusedSimpArgs false
theorem lt_tri (a b : List UInt8) : a < b ∨ a = b ∨ b < a := by
  by_cases h1 : a < b
  · exact .inl h1
  · by_cases h2 : b < a
    · exact .inr (.inr h2)
    · exact .inr (.inl (List.le_antisymm (List.not_lt.1 h2) (List.not_lt.1 h1)))
/-- Two texts, two numbers held against each other. -/
def cmpB (a b : ByteArray) : Int := if bl a < bl b then -1 else if bl b < bl a then 1 else 0
def cmpZ (a b : Int) : Int := if a < b then -1 else if b < a then 1 else 0
/-- The first that is not 0. -/
def orZ : List Int → Int
  | [] => 0
  | x :: l => if x = 0 then orZ l else x
theorem orZ_skip : ∀ (a l : List Int), (∀ x ∈ a, x = 0) → orZ (a ++ l) = orZ l
  | [], _, _ => rfl
  | x :: a, l, h => by
    show orZ (x :: (a ++ l)) = _
    unfold orZ
    rw [if_pos (h x (by simp))]
    have h2 := orZ_skip a l fun y hy => h y (by simp [hy])
    rw [h2]
    cases l <;> rfl
/-- Two items held against each other. -/
def cmpI (a b : Item) : Int := orZ [cmpB a.f0 b.f0, cmpB a.f1 b.f1, cmpZ a.f2 b.f2, cmpZ a.f5.f0 b.f5.f0, cmpZ a.f5.f1 b.f5.f1, cmpZ a.f5.f2 b.f5.f2, cmpB a.f3 b.f3, cmpZ a.f4 b.f4]
/-- What makes a comparison one: it is turned by turning, and 'not above' goes on. -/
structure GoodC {α : Type} (c : α → α → Int) : Prop where
  anti : ∀ x y, c x y < 0 ↔ 0 < c y x
  trans : ∀ x y z, c x y ≤ 0 → c y z ≤ 0 → c x z ≤ 0
section
variable {α β : Type}
theorem GoodC.zero {c : α → α → Int} (h : GoodC c) {x y : α} : c x y = 0 ↔ c y x = 0 := by
  have h1 := h.anti x y
  have h2 := h.anti y x
  omega
theorem GoodC.on {c : β → β → Int} (h : GoodC c) (f : α → β) : GoodC fun x y => c (f x) (f y) := ⟨fun _ _ => h.anti _ _, fun _ _ _ => h.trans _ _ _⟩
theorem GoodC.lex {c d : α → α → Int} (h : GoodC c) (k : GoodC d) : GoodC fun x y => if c x y = 0 then d x y else c x y := by
  refine ⟨fun x y => ?_, fun x y z h1 h2 => ?_⟩
  · have a1 := h.anti x y
    have a2 := h.anti y x
    have a3 := k.anti x y
    have a4 := k.anti y x
    show (if c x y = 0 then d x y else c x y) < 0 ↔ 0 < (if c y x = 0 then d y x else c y x)
    split <;> split <;> omega
  · have h1 : (if c x y = 0 then d x y else c x y) ≤ 0 := h1
    have h2 : (if c y z = 0 then d y z else c y z) ≤ 0 := h2
    show (if c x z = 0 then d x z else c x z) ≤ 0
    have b1 : c x y ≤ 0 := by split at h1 <;> omega
    have b2 : c y z ≤ 0 := by split at h2 <;> omega
    have b3 := h.trans x y z b1 b2
    by_cases e : c x z = 0
    · rw [if_pos e]
      have e' := h.zero.1 e
      have c1 := h.trans y z x b2 (by omega)
      have c2 := h.trans z x y (by omega) b1
      have d1 := h.anti x y
      have d2 := h.anti y x
      have d3 := h.anti y z
      have d4 := h.anti z y
      have e1 : c x y = 0 := by omega
      have e2 : c y z = 0 := by omega
      rw [if_pos e1] at h1
      rw [if_pos e2] at h2
      exact k.trans x y z h1 h2
    · rw [if_neg e]
      exact b3
end
theorem good_cmpZ : GoodC cmpZ := by
  refine ⟨fun x y => ?_, fun x y z => ?_⟩
  · unfold cmpZ; split <;> split <;> (try split) <;> (try split) <;> omega
  · unfold cmpZ; split <;> split <;> split <;> (try split) <;> (try split) <;> (try split) <;> omega
theorem cmpB_neg (a b : ByteArray) : cmpB a b < 0 ↔ bl a < bl b := by
  unfold cmpB
  by_cases h : bl a < bl b
  · simp [h]
  · by_cases h2 : bl b < bl a <;> simp [h, h2]
theorem cmpB_pos (a b : ByteArray) : 0 < cmpB a b ↔ bl b < bl a := by
  unfold cmpB
  by_cases h : bl a < bl b
  · have : ¬ bl b < bl a := fun h' => List.lt_irrefl _ (List.lt_trans h h')
    rw [if_pos h]
    simp only [this, iff_false]
    omega
  · by_cases h2 : bl b < bl a <;> simp [h, h2]
theorem good_cmpB : GoodC cmpB := by
  refine ⟨fun x y => by rw [cmpB_neg, cmpB_pos], fun x y z h1 h2 => ?_⟩
  have h1 : ¬ bl y < bl x := fun h => by have := (cmpB_pos x y).2 h; omega
  have h2 : ¬ bl z < bl y := fun h => by have := (cmpB_pos y z).2 h; omega
  rcases Int.lt_or_le 0 (cmpB x z) with h3 | h3
  · exfalso
    have h3 := (cmpB_pos x z).1 h3
    rcases lt_tri (bl x) (bl y) with a | a | a
    · exact h2 (List.lt_trans h3 a)
    · rw [a] at h3; exact h2 h3
    · exact h1 a
  · exact h3
theorem cmpB_zero (a b : ByteArray) (h : cmpB a b = 0) : a = b := by
  have h1 : ¬ bl a < bl b := fun h' => by have := (cmpB_neg a b).2 h'; omega
  have h2 : ¬ bl b < bl a := fun h' => by have := (cmpB_pos a b).2 h'; omega
  rcases lt_tri (bl a) (bl b) with e | e | e
  · exact absurd e h1
  · rw [← Go.E2.Lib.mkB_bl a, ← Go.E2.Lib.mkB_bl b, e]
  · exact absurd e h2
theorem cmpZ_zero (a b : Int) (h : cmpZ a b = 0) : a = b := by
  unfold cmpZ at h
  split at h <;> (try split at h) <;> omega
theorem good_cmpI : GoodC cmpI := by
  have h : GoodC fun x y : Item => orZ [cmpB x.f0 y.f0, cmpB x.f1 y.f1, cmpZ x.f2 y.f2, cmpZ x.f5.f0 y.f5.f0, cmpZ x.f5.f1 y.f5.f1, cmpZ x.f5.f2 y.f5.f2, cmpB x.f3 y.f3, cmpZ x.f4 y.f4] := by
    unfold orZ
    refine (good_cmpB.on fun x : Item => x.f0).lex ?_
    unfold orZ
    refine (good_cmpB.on fun x : Item => x.f1).lex ?_
    unfold orZ
    refine (good_cmpZ.on fun x : Item => x.f2).lex ?_
    unfold orZ
    refine (good_cmpZ.on fun x : Item => x.f5.f0).lex ?_
    unfold orZ
    refine (good_cmpZ.on fun x : Item => x.f5.f1).lex ?_
    unfold orZ
    refine (good_cmpZ.on fun x : Item => x.f5.f2).lex ?_
    unfold orZ
    refine (good_cmpB.on fun x : Item => x.f3).lex ?_
    unfold orZ
    have h8 := (good_cmpZ.on fun x : Item => x.f4)
    have e : (fun x y : Item => if cmpZ x.f4 y.f4 = 0 then orZ [] else cmpZ x.f4 y.f4) = fun x y => cmpZ x.f4 y.f4 := by
      funext x y
      by_cases h : cmpZ x.f4 y.f4 = 0
      · rw [if_pos h, h]; rfl
      · rw [if_neg h]
    rw [e]
    exact h8
  exact h
theorem orZ_zero : ∀ l : List Int, orZ l = 0 → ∀ x ∈ l, x = 0
  | [], _ => by simp
  | y :: l, h => by
    unfold orZ at h
    split at h
    · rename_i hy
      intro x hx
      rcases List.mem_cons.1 hx with rfl | hx
      · exact hy
      · exact orZ_zero l h x hx
    · rename_i hy; exact absurd h hy
theorem cmpI_zero (x y : Item) (h : cmpI x y = 0) : x = y := by
  have hz := orZ_zero _ h
  simp only [List.mem_cons, List.not_mem_nil, or_false, forall_eq_or_imp, forall_eq] at hz
  obtain ⟨h0, h1, h2, h3, h4, h5, h6, h7⟩ := hz
  obtain ⟨a0, a1, a2, a3, a4, ⟨b0, b1, b2⟩⟩ := x
  obtain ⟨c0, c1, c2, c3, c4, ⟨d0, d1, d2⟩⟩ := y
  simp only at *
  rw [cmpB_zero _ _ h0, cmpB_zero _ _ h1, cmpZ_zero _ _ h2, cmpZ_zero _ _ h3, cmpZ_zero _ _ h4, cmpZ_zero _ _ h5, cmpB_zero _ _ h6, cmpZ_zero _ _ h7]
/-- The sorted list. -/
def sortI (l : List Item) : List Item := l.mergeSort fun x y => !decide (cmpI y x < 0)
/-- Without those whose dot has been seen. -/
def keepN : List Dot → List Item → List Item
  | _, [] => []
  | s, x :: l => if x.f5 ∈ s then keepN s l else x :: keepN (s ++ [x.f5]) l
def normL (l : List Item) : List Item := keepN [] (sortI l)
theorem lt_irreflI (x : Item) : ¬ cmpI x x < 0 := fun h => by have := (good_cmpI.anti x x).1 h; omega
theorem le_antisymmI {x y : Item} (h : cmpI x y ≤ 0) (h' : cmpI y x ≤ 0) : x = y := cmpI_zero x y (by
  have := good_cmpI.anti x y
  have := good_cmpI.anti y x
  omega)
theorem lt_transI {x y z : Item} (h : cmpI x y < 0) (h' : cmpI y z < 0) : cmpI x z < 0 := by
  have h1 := good_cmpI.trans x y z (by omega) (by omega)
  rcases Int.lt_or_eq_of_le h1 with h2 | h2
  · exact h2
  · obtain rfl := cmpI_zero x z h2
    have := (good_cmpI.anti x y).1 h
    omega
def UpI (l : List Item) : Prop := l.Pairwise fun x y => cmpI x y < 0 ∧ x.f5 ≠ y.f5
theorem upI_ext : ∀ {l m : List Item}, UpI l → UpI m → (∀ x, x ∈ l ↔ x ∈ m) → l = m
  | [], [], _, _, _ => rfl
  | [], b :: m, _, _, h => absurd ((h b).2 (.head _)) (by simp)
  | a :: l, [], _, _, h => absurd ((h a).1 (.head _)) (by simp)
  | a :: l, b :: m, hl, hm, h => by
    obtain ⟨ha, hl'⟩ := List.pairwise_cons.1 hl
    obtain ⟨hb, hm'⟩ := List.pairwise_cons.1 hm
    have e : a = b := by
      rcases List.mem_cons.1 ((h a).1 (.head _)) with e | e
      · exact e
      rcases List.mem_cons.1 ((h b).2 (.head _)) with e' | e'
      · exact e'.symm
      exact absurd (lt_transI (hb _ e).1 (ha _ e').1) (lt_irreflI _)
    subst e
    congr 1
    refine upI_ext hl' hm' fun x => ⟨fun hx => ?_, fun hx => ?_⟩
    · rcases List.mem_cons.1 ((h x).1 (.tail _ hx)) with e | e
      · subst e
        exact absurd (ha _ hx).1 (lt_irreflI _)
      · exact e
    · rcases List.mem_cons.1 ((h x).2 (.tail _ hx)) with e | e
      · subst e
        exact absurd (hb _ hx).1 (lt_irreflI _)
      · exact e
theorem keep_norm : ∀ (l : List Item) (seen : List Dot), (l.Pairwise fun x y => cmpI x y ≤ 0) →
    UpI (keepN seen l) ∧ ∀ x, x ∈ keepN seen l ↔ x ∈ l ∧ x.f5 ∉ seen ∧ ∀ y ∈ l, y.f5 = x.f5 → cmpI x y ≤ 0
  | [], seen, _ => ⟨List.Pairwise.nil, fun x => by simp [keepN]⟩
  | a :: l, seen, h => by
    obtain ⟨ha, hl⟩ := List.pairwise_cons.1 h
    by_cases c : a.f5 ∈ seen
    · obtain ⟨h1, h2⟩ := keep_norm l seen hl
      have e : keepN seen (a :: l) = keepN seen l := by rw [keepN, if_pos c]
      rw [e]
      refine ⟨h1, fun x => ?_⟩
      rw [h2]
      constructor
      · rintro ⟨hx, hs, hm⟩
        refine ⟨.tail _ hx, hs, fun y hy hyx => ?_⟩
        rcases List.mem_cons.1 hy with rfl | hy
        · exact absurd (hyx ▸ c) hs
        · exact hm y hy hyx
      · rintro ⟨hx, hs, hm⟩
        rcases List.mem_cons.1 hx with rfl | hx
        · exact absurd c hs
        · exact ⟨hx, hs, fun y hy => hm y (.tail _ hy)⟩
    · obtain ⟨h1, h2⟩ := keep_norm l (seen ++ [a.f5]) hl
      have e : keepN seen (a :: l) = a :: keepN (seen ++ [a.f5]) l := by rw [keepN, if_neg c]
      rw [e]
      refine ⟨List.pairwise_cons.2 ⟨fun y hy => ?_, h1⟩, fun x => ?_⟩
      · obtain ⟨hy1, hy2, _⟩ := (h2 y).1 hy
        have hne : a.f5 ≠ y.f5 := fun e => hy2 (by rw [e]; simp)
        refine ⟨?_, hne⟩
        rcases Int.lt_or_eq_of_le (ha y hy1) with h | h
        · exact h
        · exact absurd (congrArg _ (cmpI_zero _ _ h)) hne
      · rw [List.mem_cons, h2]
        constructor
        · rintro (rfl | ⟨hx, hs, hm⟩)
          · refine ⟨.head _, c, fun y hy _ => ?_⟩
            rcases List.mem_cons.1 hy with rfl | hy
            · have := lt_irreflI y
              have := good_cmpI.anti y y
              omega
            · exact ha y hy
          · refine ⟨.tail _ hx, fun h => hs (List.mem_append_left _ h), fun y hy hyx => ?_⟩
            rcases List.mem_cons.1 hy with rfl | hy
            · exact absurd (by rw [← hyx]; simp) hs
            · exact hm y hy hyx
        · rintro ⟨hx, hs, hm⟩
          rcases List.mem_cons.1 hx with rfl | hx
          · exact .inl rfl
          by_cases e : a.f5 = x.f5
          · exact .inl (le_antisymmI (hm a (.head _) e) (ha x hx))
          · refine .inr ⟨hx, fun h => ?_, fun y hy => hm y (.tail _ hy)⟩
            rcases List.mem_append.1 h with h | h
            · exact hs h
            · exact e (List.mem_singleton.1 h).symm
theorem sortI_sorted (l : List Item) : (sortI l).Pairwise fun x y => cmpI x y ≤ 0 := by
  have h := List.pairwise_mergeSort (le := fun x y : Item => !decide (cmpI y x < 0)) (fun a b c h1 h2 => by
    simp only [Bool.not_eq_true', decide_eq_false_iff_not] at *
    have := good_cmpI.anti b a
    have := good_cmpI.anti c b
    have := good_cmpI.anti c a
    have := good_cmpI.trans a b c (by omega) (by omega)
    omega) (fun a b => by
    simp only [Bool.or_eq_true, Bool.not_eq_true', decide_eq_false_iff_not]
    have := good_cmpI.anti a b
    omega) l
  refine List.Pairwise.imp (fun {x y} h => ?_) h
  simp only [Bool.not_eq_true', decide_eq_false_iff_not] at h
  have := good_cmpI.anti y x
  omega
theorem sortI_mem (l : List Item) (x : Item) : x ∈ sortI l ↔ x ∈ l := (List.mergeSort_perm l _).mem_iff
theorem normL_up (l : List Item) : UpI (normL l) := (keep_norm _ [] (sortI_sorted l)).1
theorem normL_mem {l : List Item} {x : Item} : x ∈ normL l ↔ x ∈ l ∧ ∀ y ∈ l, y.f5 = x.f5 → cmpI x y ≤ 0 := by
  have := (keep_norm _ [] (sortI_sorted l)).2 x
  rw [show normL l = keepN [] (sortI l) from rfl, this, sortI_mem]
  constructor
  · rintro ⟨h1, _, h2⟩
    exact ⟨h1, fun y hy => h2 y ((sortI_mem l y).2 hy)⟩
  · rintro ⟨h1, h2⟩
    exact ⟨h1, by simp, fun y hy => h2 y ((sortI_mem l y).1 hy)⟩
theorem normL_eq {l m : List Item} (hm : UpI m) (h : ∀ x, x ∈ m ↔ x ∈ l ∧ ∀ y ∈ l, y.f5 = x.f5 → cmpI x y ≤ 0) : normL l = m := upI_ext (normL_up l) hm fun x => normL_mem.trans (h x).symm
theorem le_reflI (x : Item) : cmpI x x ≤ 0 := by
  have := good_cmpI.anti x x
  omega
theorem upI_dot : ∀ {m : List Item}, UpI m → ∀ x ∈ m, ∀ y ∈ m, x.f5 = y.f5 → x = y
  | [], _, x, hx, _, _, _ => absurd hx (by simp)
  | a :: m, h, x, hx, y, hy, e => by
    obtain ⟨ha, hm⟩ := List.pairwise_cons.1 h
    rcases List.mem_cons.1 hx with e1 | h1 <;> rcases List.mem_cons.1 hy with e2 | h2
    · rw [e1, e2]
    · exact absurd (e1 ▸ e) (ha y h2).2
    · exact absurd (e2 ▸ e).symm (ha x h1).2
    · exact upI_dot hm x h1 y h2 e
theorem normL_self {m : List Item} (hm : UpI m) : normL m = m := normL_eq hm fun x => ⟨fun hx => ⟨hx, fun y hy e => by rw [upI_dot hm y hy x hx e]; exact le_reflI x⟩, fun h => h.1⟩
theorem normL_congr {l m : List Item} (h : ∀ x, x ∈ l ↔ x ∈ m) : normL l = normL m := normL_eq (normL_up m) fun x => by
  rw [normL_mem, h]
  exact ⟨fun ⟨a, b⟩ => ⟨a, fun y hy => b y ((h y).1 hy)⟩, fun ⟨a, b⟩ => ⟨a, fun y hy => b y ((h y).2 hy)⟩⟩
theorem UpI.filter {m : List Item} (h : UpI m) (p : Item → Bool) : UpI (m.filter p) := List.Pairwise.filter _ h
theorem keepN_len : ∀ (l : List Item) (s : List Dot), (keepN s l).length ≤ l.length
  | [], _ => Nat.le_refl _
  | x :: l, s => by
    rw [keepN]
    split
    · have := keepN_len l s; simp; omega
    · have := keepN_len l (s ++ [x.f5]); simp; omega
theorem normL_len (l : List Item) : (normL l).length ≤ l.length := by
  have := keepN_len (sortI l) []
  have e : (sortI l).length = l.length := by unfold sortI; simp
  unfold normL
  omega
end Go.E2.S
/-! Comparing: cmp.Compare, cmp.Or, item.compare, item.Less. -/
namespace Go.E2.S
open Go Go.E2 Go.RowKit Go.Proofs
set_option linter.unusedVariables false
set_option linter.unusedSimpArgs false
set_option maxHeartbeats 1000000
set_option maxRecDepth 10000
theorem nanS (a : ByteArray) : A.fn 236 [sv a] [] = some (.one (bv false), []) := by
  rw [fn_run hL Tryz.func236 rfl L236 (by rfl) rfl rfl rfl (by decide)]
  simp [Tryz.f236]
theorem nanI (a : Int) : A.fn 237 [iv a] [] = some (.one (bv false), []) := by
  rw [fn_run hL Tryz.func237 rfl L237 (by rfl) rfl rfl rfl (by decide)]
  simp [Tryz.f237]
theorem nanL (a : Int) : A.fn 238 [iv a] [] = some (.one (bv false), []) := by
  rw [fn_run hL Tryz.func238 rfl L238 (by rfl) rfl rfl rfl (by decide)]
  simp [Tryz.f238]
theorem cmpS (a b : ByteArray) : A.fn 203 [sv a, sv b] [] = some (.one (iv (cmpB a b)), []) := by
  have h1 := nanS a
  have h2 := nanS b
  rw [fn_run hL Tryz.func203 rfl L203 (by rfl) rfl rfl rfl (by decide)]
  unfold cmpB
  by_cases c : bl a < bl b
  · simp [Tryz.f203, h1, h2, c]
  · by_cases d : bl b < bl a
    · simp [Tryz.f203, h1, h2, c, d, -List.not_lt]
    · simp [Tryz.f203, h1, h2, c, d, -List.not_lt]
theorem cmpZi (a b : Int) : A.fn 204 [iv a, iv b] [] = some (.one (iv (cmpZ a b)), []) := by
  have h1 := nanI a
  have h2 := nanI b
  rw [fn_run hL Tryz.func204 rfl L204 (by rfl) rfl rfl rfl (by decide)]
  unfold cmpZ
  by_cases c : a < b
  · simp [Tryz.f204, h1, h2, c]
  · by_cases d : b < a
    · simp [Tryz.f204, h1, h2, c, d, -Int.not_lt]
    · simp [Tryz.f204, h1, h2, c, d, -Int.not_lt]
theorem cmpZl (a b : Int) : A.fn 205 [iv a, iv b] [] = some (.one (iv (cmpZ a b)), []) := by
  have h1 := nanL a
  have h2 := nanL b
  rw [fn_run hL Tryz.func205 rfl L205 (by rfl) rfl rfl rfl (by decide)]
  unfold cmpZ
  by_cases c : a < b
  · simp [Tryz.f205, h1, h2, c]
  · by_cases d : b < a
    · simp [Tryz.f205, h1, h2, c, d, -Int.not_lt]
    · simp [Tryz.f205, h1, h2, c, d, -Int.not_lt]
theorem or_loop (l : List Int) (hl : l.length < 1000000000) (n : Nat) : ∀ i : Nat, l.length = i + n →
    A.lp 202 0 (hd202_0 [iv 0, pv (lZ l), iv l.length, iv i] []) = some (if orZ (l.drop i) = 0 then (.exit 0, ex202_0 [nov, iv 0] []) else (.ret, ex202_0 [iv (orZ (l.drop i)), iv 0] [])) := by
  induction n with
  | zero =>
    intro i hi
    rw [lp_run hL Tryz.func202 rfl (by rfl) 0 rfl]
    obtain rfl : i = l.length := by omega
    rw [List.drop_length]
    simp [orZ]
  | succ n ih =>
    intro i hi
    have h1 : i < l.length := by omega
    have := ih (i + 1) (by omega)
    rw [lp_run hL Tryz.func202 rfl (by rfl) 0 rfl]
    rw [List.drop_eq_getElem_cons h1]
    by_cases c : l[i] = 0
    · simp [h1, c, orZ] at this ⊢
      simp (disch := omega) only [wr]
      exact this
    · simp [h1, c, orZ] at this ⊢
theorem cmpOr (l : List Int) (hl : l.length < 1000000000) : A.fn 202 [pv (lZ l)] [] = some (.one (iv (orZ l)), []) := by
  have h := or_loop l hl l.length 0 (by omega)
  rw [fn_run hL Tryz.func202 rfl L202 (by rfl) rfl rfl rfl (by decide)]
  by_cases c : orZ l = 0
  · simp [Tryz.f202, c] at h ⊢
    simp [h]
  · simp [Tryz.f202, c] at h ⊢
    simp [h]
theorem itemCmp (a b : Item) : A.fn 143 [ag (encI a), ag (encI b)] [] = some (.one (iv (cmpI a b)), []) := by
  have h0 := cmpS a.f0 b.f0
  have h1 := cmpS a.f1 b.f1
  have h2 := cmpZi a.f2 b.f2
  have h3 := cmpZi a.f5.f0 b.f5.f0
  have h4 := cmpZi a.f5.f1 b.f5.f1
  have h5 := cmpZi a.f5.f2 b.f5.f2
  have h6 := cmpS a.f3 b.f3
  have h7 := cmpZl a.f4 b.f4
  have h8 := cmpOr [cmpB a.f0 b.f0, cmpB a.f1 b.f1, cmpZ a.f2 b.f2, cmpZ a.f5.f0 b.f5.f0, cmpZ a.f5.f1 b.f5.f1, cmpZ a.f5.f2 b.f5.f2, cmpB a.f3 b.f3, cmpZ a.f4 b.f4] (by simp)
  rw [fn_run hL Tryz.func143 rfl L143 (by rfl) rfl rfl rfl (by decide)]
  simp only [lZ, List.map_cons, List.map_nil] at h8
  simp [Tryz.f143, h0, h1, h2, h3, h4, h5, h6, h7, h8]
  rw [if_pos (by kernel_rfl)]
  simp [h0, h1, h2, h3, h4, h5, h6, h7, h8]
  rfl
end Go.E2.S
/-! slices.IndexFunc, slices.DeleteFunc over a row that is the caller's own, with a function value that answers. -/
namespace Go.E2.S
open Go Go.E2 Go.RowKit Go.Proofs
set_option linter.unusedVariables false
set_option linter.unusedSimpArgs false
set_option maxHeartbeats 1000000
set_option maxRecDepth 10000
theorem findI_cons {α : Type} (p : α → Bool) (x : α) (l : List α) : (x :: l).findIdx p = if p x = true then 0 else l.findIdx p + 1 := by
  rw [List.findIdx_cons]
  cases p x <;> rfl
abbrev rI (l : List Item) : AObj := .row true 8 (l.map encI)
theorem idxI_loop (l : List Item) (f : FuncId) (cs : List PV) (p : Item → Bool) (hf : env.fns f = true) (hl : l.length < 1000000000) (hp : ∀ x ∈ l, A.fn f (ag (encI x) :: cs.map fun p => .at (.pv p)) [] = some (.one (bv (p x)), [])) (n : Nat) : ∀ i : Nat, l.length = i + n →
    A.lp 189 0 (hd189_0 [.at (.row pinN 0), pv (.fn f cs), iv l.length, iv i] [(pinN, 0, some (rI l))]) =
      some (if (l.drop i).any p = true then (.ret, ex189_0 [iv (i + (l.drop i).findIdx p : Nat)] [(pinN, 0, some (rI l))]) else (.exit 0, ex189_0 [nov] [(pinN, 0, some (rI l))])) := by
  induction n with
  | zero =>
    intro i hi
    rw [lp_run hL Tryz.func189 rfl (by rfl) 0 rfl]
    obtain rfl : i = l.length := by omega
    simp
  | succ n ih =>
    intro i hi
    have h1 : i < l.length := by omega
    have ih := ih (i + 1) (by omega)
    have hx := hp l[i] (List.getElem_mem h1)
    rw [lp_run hL Tryz.func189 rfl (by rfl) 0 rfl]
    rw [List.drop_eq_getElem_cons h1, List.any_cons, findI_cons]
    simp only [ag, encI, List.map_cons, List.map_nil] at hx
    cases c : p l[i] with
    | true =>
      rw [c] at hx
      simp [h1, hx, hf]
    | false =>
      rw [c] at hx
      simp [h1, hx, hf, -List.any_eq_true]
      simp (disch := omega) only [wr]
      refine ih.trans ?_
      cases (l.drop (i + 1)).any p <;> simp [Nat.add_assoc, Nat.add_comm 1]
def idxL {α : Type} (p : α → Bool) (l : List α) : Int := if l.any p = true then (l.findIdx p : Nat) else -1
theorem idxI (l : List Item) (f : FuncId) (cs : List PV) (p : Item → Bool) (hf : env.fns f = true) (hl : l.length < 1000000000) (hp : ∀ x ∈ l, A.fn f (ag (encI x) :: cs.map fun p => .at (.pv p)) [] = some (.one (bv (p x)), [])) :
    A.fn 189 [.at (.row pinN 0), pv (.fn f cs)] [rI l] = some (.one (iv (idxL p l)), [some (rI l)]) := by
  have h := idxI_loop l f cs p hf hl hp l.length 0 (by omega)
  rw [fn_run hL Tryz.func189 rfl L189 (by rfl) rfl rfl rfl (by decide)]
  unfold idxL
  cases c : l.any p with
  | true =>
    simp [Tryz.f189, c] at h ⊢
    simp [h]
  | false =>
    simp [Tryz.f189, c] at h ⊢
    simp [h]
/-- The loop of DeleteFunc: what is kept stands in front. -/
theorem delI_loop (l : List Item) (f : FuncId) (cs : List PV) (p : Item → Bool) (hf : env.fns f = true) (hl : l.length < 1000000000) (hp : ∀ x ∈ l, A.fn f (ag (encI x) :: cs.map fun p => .at (.pv p)) [] = some (.one (bv (p x)), [])) (n : Nat) : ∀ (j c : Nat) (ys : List Item), l.length = j + n → ys.length = l.length → ys.drop j = l.drop j → c ≤ j →
    ∃ zs : List Item, zs.length = l.length ∧ zs.take (c + ((l.drop j).filter fun x => !p x).length) = ys.take c ++ (l.drop j).filter (fun x => !p x) ∧ A.lp 144 0 (hd144_0 [.at (.row pinN 0), pv (.fn f cs), iv c, iv j] [(pinN, 0, some (rI ys))]) =
      some (.exit 0, ex144_0 [.at (.row pinN 0), iv (c + ((l.drop j).filter fun x => !p x).length : Nat)] [(pinN, 0, some (rI zs))]) := by
  induction n with
  | zero =>
    intro j c ys hj hy hd hc
    obtain rfl : j = l.length := by omega
    refine ⟨ys, hy, by simp, ?_⟩
    rw [lp_run hL Tryz.func144 rfl (by rfl) 0 rfl]
    simp [hy]
  | succ n ih =>
    intro j c ys hj hy hd hc
    have h1 : j < l.length := by omega
    have h2 : j < ys.length := by omega
    have h3 : c < ys.length := by omega
    have hx := hp l[j] (List.getElem_mem h1)
    rw [List.drop_eq_getElem_cons h1, List.drop_eq_getElem_cons h2] at hd
    obtain ⟨e, hd⟩ := List.cons.inj hd
    rw [← e] at hx
    rw [List.drop_eq_getElem_cons h1, ← e]
    simp only [ag, encI, List.map_cons, List.map_nil] at hx
    cases q : p ys[j] with
    | true =>
      rw [q] at hx
      obtain ⟨zs, z1, z2, z3⟩ := ih (j + 1) c ys (by omega) hy hd (by omega)
      rw [List.filter_cons_of_neg (by simp [q])]
      refine ⟨zs, z1, z2, ?_⟩
      rw [lp_run hL Tryz.func144 rfl (by rfl) 0 rfl]
      simp [h2, hx, hf]
      simp (disch := omega) only [wr]
      exact z3
    | false =>
      rw [q] at hx
      obtain ⟨zs, z1, z2, z3⟩ := ih (j + 1) (c + 1) (ys.set c ys[j]) (by omega) (by simp [hy]) (by rw [List.drop_set_of_lt (by omega)]; exact hd) (by omega)
      rw [List.filter_cons_of_pos (by simp [q]), List.length_cons, Nat.add_comm _ 1, ← Nat.add_assoc]
      refine ⟨zs, z1, ?_, ?_⟩
      · rw [z2, List.take_succ_eq_append_getElem (by simp; omega)]
        rw [List.take_set_of_le (by omega)]
        simp
      rw [lp_run hL Tryz.func144 rfl (by rfl) 0 rfl]
      simp [h2, h3, hx, hf]
      simp (disch := omega) only [wr]
      simp only [rI, List.map_set] at z3
      exact z3
theorem idx_filter {α : Type} (p : α → Bool) : ∀ (l : List α), l.any p = true → ∃ h : l.findIdx p < l.length, p (l[l.findIdx p]) = true ∧ (l.take (l.findIdx p)).filter (fun x => !p x) = l.take (l.findIdx p) ∧ l.filter (fun x => !p x) = l.take (l.findIdx p) ++ (l.drop (l.findIdx p + 1)).filter (fun x => !p x)
  | [], h => by simp at h
  | x :: l, h => by
    cases c : p x with
    | true =>
      have e : (x :: l).findIdx p = 0 := by rw [findI_cons, if_pos c]
      refine ⟨by rw [e]; simp, ?_⟩
      simp [e, c]
    | false =>
      have e : (x :: l).findIdx p = l.findIdx p + 1 := by rw [findI_cons, if_neg (by simp [c])]
      rw [List.any_cons, c, Bool.false_or] at h
      obtain ⟨h1, h2, h3, h4⟩ := idx_filter p l h
      refine ⟨by rw [e, List.length_cons]; omega, ?_, ?_, ?_⟩
      · simp only [e, List.getElem_cons_succ]; exact h2
      · rw [e, List.take_succ_cons, List.filter_cons_of_pos (by simp [c]), h3]
      · rw [e, List.take_succ_cons, List.drop_succ_cons, List.filter_cons_of_pos (by simp [c]), h4]; rfl
theorem filter_none {α : Type} (p : α → Bool) (l : List α) (h : l.any p = false) : l.filter (fun x => !p x) = l := by
  rw [List.any_eq_false] at h
  exact List.filter_eq_self.2 fun x hx => by simp [h x hx]
/-- What DeleteFunc answers: a shorter row, if something went; or the very row. -/
def delR (b : Bool) (r : AObj) : Res := match b with
  | true => (.one (.at (.row (pinN + 1) 0)), [none, some r])
  | false => (.one (.at (.row pinN 0)), [some r])
theorem delI (l : List Item) (f : FuncId) (cs : List PV) (p : Item → Bool) (hf : env.fns f = true) (hl : l.length < 1000000000) (hp : ∀ x ∈ l, A.fn f (ag (encI x) :: cs.map fun p => .at (.pv p)) [] = some (.one (bv (p x)), [])) :
    A.fn 144 [.at (.row pinN 0), pv (.fn f cs)] [rI l] = some (delR (l.any p) (rI (l.filter fun x => !p x))) := by
  have h := idxI l f cs p hf hl hp
  rw [fn_run hL Tryz.func144 rfl L144 (by rfl) rfl rfl rfl (by decide)]
  cases c : l.any p with
  | false =>
    simp only [idxL, c, rI, if_true, Bool.false_eq_true, if_false] at h
    rw [filter_none p l c]
    simp [Tryz.f144, h, delR]
  | true =>
    obtain ⟨h1, h2, h3, h4⟩ := idx_filter p l c
    simp only [idxL, c, rI, if_true, Bool.false_eq_true, if_false] at h
    generalize hk : l.findIdx p = k at h h1 h2 h3 h4
    obtain ⟨zs, z1, z2, z3⟩ := delI_loop l f cs p hf hl hp (l.length - (k + 1)) (k + 1) k l (by omega) rfl rfl (by omega)
    rw [h4, ← z2]
    have hm := List.length_filter_le (fun x => !p x) (l.drop (k + 1))
    rw [List.length_drop] at hm
    obtain ⟨m, hm'⟩ : ∃ m, k + ((l.drop (k + 1)).filter fun x => !p x).length = m := ⟨_, rfl⟩
    rw [hm'] at z3 ⊢
    have hz : m ≤ zs.length := by omega
    have e1 : ¬ (k : Int) = -1 := by omega
    have e2 : ¬ (m : Int) < 0 := by omega
    simp at z3
    simp [Tryz.f144, h]
    simp (disch := omega) only [wr]
    simp [z3, e1, e2, hz, delR]
end Go.E2.S
