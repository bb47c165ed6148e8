/- The document's one form of items. -/
import Derived.Test.YtjejhkhofmkefaaVI8
import Derived.Test.YtjejhkhofmkefaaVF3
import Derived.Test.YtjejhkhofmkefaaVI6
namespace Go.E2.S
open Go Go.E2 Go.RowKit Go.Proofs
set_option linter.unusedVariables false
set_option linter.unusedSimpArgs false
set_option maxHeartbeats 2000000
set_option maxRecDepth 10000
/-! ### Plain -/
/-- An item laid into its place. -/
def putL (l : List Item) (x : Item) : List Item := l.takeWhile (fun y => decide (cmpI y x < 0)) ++ x :: l.dropWhile fun y => decide (cmpI y x < 0)
theorem putL_mem {l : List Item} {x y : Item} : y ∈ putL l x ↔ y = x ∨ y ∈ l := by
  unfold putL
  have e := List.takeWhile_append_dropWhile (p := fun y => decide (cmpI y x < 0)) (l := l)
  rw [List.mem_append, List.mem_cons]
  constructor
  · rintro (h | h | h)
    · exact .inr (by rw [← e]; exact List.mem_append_left _ h)
    · exact .inl h
    · exact .inr (by rw [← e]; exact List.mem_append_right _ h)
  · rintro (h | h)
    · exact .inr (.inl h)
    · rw [← e] at h
      rcases List.mem_append.1 h with h | h
      · exact .inl h
      · exact .inr (.inr h)
theorem putL_up : ∀ {l : List Item} {x : Item}, UpI l → (∀ y ∈ l, y.f5 ≠ x.f5) → UpI (putL l x)
  | [], x, _, _ => by simp [putL, UpI]
  | a :: l, x, h, hd => by
    obtain ⟨ha, hl⟩ := List.pairwise_cons.1 h
    by_cases c : cmpI a x < 0
    · have e : putL (a :: l) x = a :: putL l x := by unfold putL; rw [List.takeWhile_cons_of_pos (by simpa using c), List.dropWhile_cons_of_pos (by simpa using c)]; rfl
      rw [e]
      refine List.pairwise_cons.2 ⟨fun y hy => ?_, putL_up hl fun y hy => hd y (.tail _ hy)⟩
      rcases putL_mem.1 hy with rfl | hy
      · exact ⟨c, hd a (.head _)⟩
      · exact ha y hy
    · have e : putL (a :: l) x = x :: a :: l := by unfold putL; rw [List.takeWhile_cons_of_neg (by simpa using c), List.dropWhile_cons_of_neg (by simpa using c)]; rfl
      rw [e]
      have hxa : cmpI x a < 0 := by
        have h1 := good_cmpI.anti a x
        have h2 := good_cmpI.anti x a
        rcases Int.lt_or_le (cmpI x a) 0 with q | q
        · exact q
        · exact absurd (congrArg Item.f5 (cmpI_zero a x (by omega))) (hd a (.head _))
      refine List.pairwise_cons.2 ⟨fun y hy => ?_, h⟩
      refine ⟨?_, fun e => hd y hy e.symm⟩
      rcases List.mem_cons.1 hy with rfl | hy
      · exact hxa
      · exact lt_transI hxa (ha y hy).1
/-- Is it the first one of its dot? -/
def blocks (l : List Item) (i k : Nat) (y x : Item) : Bool := decide (y.f5 = x.f5) && (decide (cmpI y x < 0) || (decide (y = x) && decide (k < i)))
def firstI (l : List Item) (i : Nat) (x : Item) (n : Nat) : Bool := (List.range n).all fun k => match l[k]? with
  | some y => !blocks l i k y x
  | none => true
theorem firstI_succ (l : List Item) (i : Nat) (x : Item) (n : Nat) (h : n < l.length) : firstI l i x (n + 1) = (firstI l i x n && !blocks l i n l[n] x) := by
  unfold firstI
  rw [List.range_succ, List.all_append]
  simp [h]
theorem firstI_iff (l : List Item) (i : Nat) (x : Item) (n : Nat) : firstI l i x n = true ↔ ∀ k (h : k < l.length), k < n → l[k].f5 = x.f5 → ¬ cmpI l[k] x < 0 ∧ ¬ (l[k] = x ∧ k < i) := by
  unfold firstI
  rw [List.all_eq_true]
  constructor
  · intro h k hk hn e
    have := h k (List.mem_range.2 hn)
    rw [List.getElem?_eq_getElem hk] at this
    simp [blocks, e] at this
    exact ⟨by omega, fun ⟨a, b⟩ => this.2.elim (fun c => c a) (fun c => by omega)⟩
  · intro h k hk
    have hn := List.mem_range.1 hk
    cases q : l[k]? with
    | none => rfl
    | some y =>
      obtain ⟨hk2, rfl⟩ := List.getElem?_eq_some_iff.1 q
      by_cases e : l[k].f5 = x.f5
      · obtain ⟨h1, h2⟩ := h k hk2 hn e
        simp only [blocks, e, decide_true, Bool.true_and, Bool.not_eq_true', Bool.or_eq_false_iff, decide_eq_false_iff_not, Bool.and_eq_false_iff]
        exact ⟨h1, Decidable.or_iff_not_imp_left.2 fun c d => h2 ⟨Decidable.not_not.1 c, d⟩⟩
      · simp [blocks, e]
/-- The one form, item by item. -/
def normR (l : List Item) : Nat → List Item
  | 0 => []
  | i + 1 => match l[i]? with
    | some x => if firstI l i x l.length = true then putL (normR l i) x else normR l i
    | none => normR l i
theorem normR_spec (l : List Item) : ∀ i, i ≤ l.length → UpI (normR l i) ∧ ∀ x, x ∈ normR l i ↔ ∃ k, k < i ∧ l[k]? = some x ∧ firstI l k x l.length = true
  | 0, _ => ⟨List.Pairwise.nil, fun x => by simp [normR]⟩
  | i + 1, hi => by
    obtain ⟨h1, h2⟩ := normR_spec l i (by omega)
    have hl : i < l.length := by omega
    rw [normR, List.getElem?_eq_getElem hl]
    dsimp only
    by_cases c : firstI l i l[i] l.length = true
    · rw [if_pos c]
      refine ⟨putL_up h1 fun y hy e => ?_, fun x => ?_⟩
      · obtain ⟨k, hk, hky, hf⟩ := (h2 y).1 hy
        obtain ⟨hk2, rfl⟩ := List.getElem?_eq_some_iff.1 hky
        obtain ⟨a1, a2⟩ := (firstI_iff _ _ _ _).1 c k hk2 hk2 e
        obtain ⟨b1, b2⟩ := (firstI_iff _ _ _ _).1 hf i hl hl e.symm
        refine a2 ⟨?_, hk⟩
        have q1 := good_cmpI.anti l[k] l[i]
        have q2 := good_cmpI.anti l[i] l[k]
        exact cmpI_zero _ _ (by omega)
      · rw [putL_mem, h2]
        constructor
        · rintro (rfl | ⟨k, hk, h⟩)
          · exact ⟨i, by omega, List.getElem?_eq_getElem hl, c⟩
          · exact ⟨k, by omega, h⟩
        · rintro ⟨k, hk, h3, h4⟩
          by_cases e : k = i
          · subst e
            rw [List.getElem?_eq_getElem hl] at h3
            cases h3
            exact .inl rfl
          · exact .inr ⟨k, by omega, h3, h4⟩
    · rw [if_neg c]
      refine ⟨h1, fun x => ?_⟩
      rw [h2]
      constructor
      · rintro ⟨k, hk, h⟩
        exact ⟨k, by omega, h⟩
      · rintro ⟨k, hk, h3, h4⟩
        by_cases e : k = i
        · subst e
          rw [List.getElem?_eq_getElem hl] at h3
          cases h3
          exact absurd h4 c
        · exact ⟨k, by omega, h3, h4⟩
theorem least_at (l : List Item) (x : Item) (h : x ∈ l) : ∃ k, ∃ hk : k < l.length, l[k] = x ∧ ∀ j (hj : j < l.length), j < k → l[j] ≠ x := by
  refine ⟨l.findIdx fun y => decide (y = x), List.findIdx_lt_length.2 ⟨x, h, by simp⟩, ?_, fun j hj hlt => ?_⟩
  · have := List.findIdx_getElem (p := fun y => decide (y = x)) (xs := l) (w := List.findIdx_lt_length.2 ⟨x, h, by simp⟩)
    simpa using this
  · have := List.not_of_lt_findIdx (p := fun y => decide (y = x)) (xs := l) hlt
    simpa using this
theorem normR_eq (l : List Item) : normR l l.length = normL l := by
  obtain ⟨h1, h2⟩ := normR_spec l l.length (Nat.le_refl _)
  refine (normL_eq h1 fun x => ?_).symm
  rw [h2]
  constructor
  · rintro ⟨k, hk, hx, hf⟩
    obtain ⟨hk2, rfl⟩ := List.getElem?_eq_some_iff.1 hx
    refine ⟨List.getElem_mem _, fun y hy e => ?_⟩
    obtain ⟨j, hj, rfl⟩ := List.getElem_of_mem hy
    obtain ⟨a1, _⟩ := (firstI_iff _ _ _ _).1 hf j hj hj e
    have := good_cmpI.anti l[k] l[j]
    have := good_cmpI.anti l[j] l[k]
    omega
  · rintro ⟨hx, hm⟩
    obtain ⟨k, hk, e, hl⟩ := least_at l x hx
    refine ⟨k, hk, by rw [List.getElem?_eq_getElem hk, e], (firstI_iff _ _ _ _).2 fun j hj _ hd => ⟨fun h => ?_, fun ⟨h, hlt⟩ => hl j hj hlt h⟩⟩
    have h1 := hm l[j] (List.getElem_mem hj) hd
    have := good_cmpI.anti l[j] x
    omega
theorem putL_len (l : List Item) (x : Item) : (putL l x).length = l.length + 1 := by
  unfold putL
  have e := congrArg List.length (List.takeWhile_append_dropWhile (p := fun y => decide (cmpI y x < 0)) (l := l))
  rw [List.length_append] at e
  rw [List.length_append, List.length_cons]
  omega
theorem normR_len (l : List Item) : ∀ i, (normR l i).length ≤ i
  | 0 => Nat.le_refl _
  | i + 1 => by
    have := normR_len l i
    rw [normR]
    split
    · split
      · rw [putL_len]; omega
      · omega
    · omega
/-! ### Walks -/
theorem put_loop (l : List Item) (x : Item) (hl : l.length < 1000000000) (n : Nat) : ∀ i : Nat, l.length = i + n →
    A.lp 74 0 (hd74_0 [pv (lI l), .at (.ptr 2000 0 0), iv i] [(2000, 0, some (bI x))]) = some (.exit 0, ex74_0 [pv (lI l), .at (.ptr 2000 0 0), iv (i + ((l.drop i).takeWhile fun y => decide (cmpI y x < 0)).length : Nat)] [(2000, 0, some (bI x))]) := by
  induction n with
  | zero =>
    intro i hi
    rw [lp_run hL Try.func74 rfl (by rfl) 0 rfl]
    obtain rfl : i = l.length := by omega
    simp
    rw [if_pos (by kernel_rfl)]
    simp
  | succ n ih =>
    intro i hi
    have h1 : i < l.length := by omega
    have ih := ih (i + 1) (by omega)
    have hx := rless l[i] x
    simp only [ag, encI, List.map_cons, List.map_nil] at hx
    rw [List.drop_eq_getElem_cons h1]
    rw [lp_run hL Try.func74 rfl (by rfl) 0 rfl]
    by_cases c : cmpI l[i] x < 0
    · rw [decide_eq_true c] at hx
      rw [List.takeWhile_cons_of_pos (by simpa using c), List.length_cons, Nat.add_comm _ 1, ← Nat.add_assoc]
      simp [h1, hx]
      rw [if_pos (by kernel_rfl)]
      simp [h1, hx]
      simp (disch := omega) only [wr]
      exact ih
    · rw [decide_eq_false c] at hx
      rw [List.takeWhile_cons_of_neg (by simpa using c)]
      simp [h1, hx]
      rw [if_pos (by kernel_rfl)]
      simp [h1, hx]
theorem rput (l : List Item) (x : Item) (hl : l.length < 1000000000) : A.fn 74 [pv (lI l), ag (encI x)] [] = some (.one (pv (lI (putL l x))), []) := by
  have h := put_loop l x hl l.length 0 (by omega)
  rw [List.drop_zero, Nat.zero_add] at h
  unfold putL
  have e := List.takeWhile_append_dropWhile (p := fun y => decide (cmpI y x < 0)) (l := l)
  generalize l.takeWhile (fun y => decide (cmpI y x < 0)) = t at h e ⊢
  generalize l.dropWhile (fun y => decide (cmpI y x < 0)) = d at e ⊢
  subst e
  rw [List.length_append] at hl
  have l1 : t.length * 89 ≤ 70368744177664 := by omega
  have l2 : (t.length + 1) * 89 ≤ 70368744177664 := by omega
  have l3 : (t.length + 1 + d.length) * 89 ≤ 70368744177664 := by omega
  have e0 : ¬ (t.length : Int) < 0 := by omega
  have e1 : (t.length : Int) ≤ (t.length : Int) + d.length := by omega
  rw [fn_run hL Try.func74 rfl L74 (by rfl) rfl rfl rfl (by decide)]
  simp at h
  simp [Try.f74, h, l1, l2, l3, e0, e1]
  rw [if_pos (by kernel_rfl)]
  simp [l1, l2, l3, e0, e1]
  rw [List.take_of_length_le (by simp)]
theorem item_eqd (a b : Item) : (decide (a.f0 = b.f0) && (decide (a.f1 = b.f1) && (decide (a.f2 = b.f2) && (decide (a.f3 = b.f3) && (decide (a.f4 = b.f4) && (decide (a.f5.f0 = b.f5.f0) && (decide (a.f5.f1 = b.f5.f1) && decide (a.f5.f2 = b.f5.f2)))))))) = decide (a = b) := by
  simp only [← item_ext, Bool.decide_and]
theorem item_eq5 (a b : Item) (h : a.f5 = b.f5) : (decide (a.f0 = b.f0) && (decide (a.f1 = b.f1) && (decide (a.f2 = b.f2) && (decide (a.f3 = b.f3) && decide (a.f4 = b.f4))))) = decide (a = b) := by
  rw [← item_eqd, h]
  simp
/-- What has been laid so far: nothing yet, or a list. -/
def soFar (b : Bool) (out : List Item) : V1 := match b with
  | true => pv (lI out)
  | false => .at .nil
theorem rnorm_l2 (l : List Item) (hl : l.length < 1000000000) (i : Nat) (hi : i < l.length) (b : Bool) (out : List Item) (n : Nat) : ∀ k : Nat, l.length = k + n →
    A.lp 30 2 (hd30_2 [pv (lI l), soFar b out, iv i, bv (firstI l i l[i] k), iv k] []) = some (.exit 2, ex30_2 [pv (lI l), soFar b out, iv i, bv (firstI l i l[i] l.length)] []) := by
  induction n with
  | zero =>
    intro k hk
    rw [lp_run hL Try.func30 rfl (by rfl) 2 rfl]
    obtain rfl : k = l.length := by omega
    cases b <;> simp [soFar]
  | succ n ih =>
    intro k hk
    have h1 : k < l.length := by omega
    have ih := ih (k + 1) (by omega)
    rw [firstI_succ l i l[i] k h1, blocks] at ih
    have hx := rless l[k] l[i]
    simp only [ag, encI, List.map_cons, List.map_nil] at hx
    rw [lp_run hL Try.func30 rfl (by rfl) 2 rfl]
    by_cases e : l[k].f5 = l[i].f5
    · have e' := eq_true e
      have e5 := item_eq5 l[k] l[i] e
      by_cases c : cmpI l[k] l[i] < 0
      · rw [decide_eq_true c] at hx
        simp only [decide_eq_true e, decide_eq_true c, Bool.true_or, Bool.and_true, Bool.not_true, Bool.and_false] at ih
        cases b
        · simp [soFar] at ih ⊢
          simp [h1, hi, hx, e', dot_ext]
          rw [if_pos ?q]
          case q => kernel_rfl
          simp [h1, hi, hx, e', dot_ext]
          simp (disch := omega) only [wr]
          exact ih
        · simp [soFar] at ih ⊢
          simp [h1, hi, hx, e', dot_ext]
          rw [if_pos ?q]
          case q => kernel_rfl
          simp [h1, hi, hx, e', dot_ext]
          simp (disch := omega) only [wr]
          exact ih
      · rw [decide_eq_false c] at hx
        by_cases d : l[k] = l[i]
        · have d' := eq_true d
          by_cases f : k < i
          · simp only [decide_eq_true e, decide_eq_false c, decide_eq_true d, decide_eq_true f, Bool.false_or, Bool.and_true, Bool.not_true, Bool.and_false] at ih
            cases b
            · simp [soFar] at ih ⊢
              simp [h1, hi, hx, e', d', f, dot_ext, e5]
              rw [if_pos ?q]
              case q => kernel_rfl
              simp [h1, hi, hx, e', d', f, dot_ext, e5]
              simp (disch := omega) only [wr]
              exact ih
            · simp [soFar] at ih ⊢
              simp [h1, hi, hx, e', d', f, dot_ext, e5]
              rw [if_pos ?q]
              case q => kernel_rfl
              simp [h1, hi, hx, e', d', f, dot_ext, e5]
              simp (disch := omega) only [wr]
              exact ih
          · simp only [decide_eq_true e, decide_eq_false c, decide_eq_true d, decide_eq_false f, Bool.false_or, Bool.and_true, Bool.not_false, Bool.and_false] at ih
            cases b
            · simp [soFar] at ih ⊢
              simp [h1, hi, hx, e', d', f, dot_ext, e5]
              rw [if_pos ?q]
              case q => kernel_rfl
              simp [h1, hi, hx, e', d', f, dot_ext, e5, -Nat.not_lt]
              simp (disch := omega) only [wr]
              exact ih
            · simp [soFar] at ih ⊢
              simp [h1, hi, hx, e', d', f, dot_ext, e5]
              rw [if_pos ?q]
              case q => kernel_rfl
              simp [h1, hi, hx, e', d', f, dot_ext, e5, -Nat.not_lt]
              simp (disch := omega) only [wr]
              exact ih
        · have d' := eq_false d
          simp only [decide_eq_true e, decide_eq_false c, decide_eq_false d, Bool.false_or, Bool.false_and, Bool.and_true, Bool.not_false, Bool.and_false] at ih
          cases b
          · simp [soFar] at ih ⊢
            simp [h1, hi, hx, e', d', dot_ext, e5]
            rw [if_pos ?q]
            case q => kernel_rfl
            simp [h1, hi, hx, e', d', dot_ext, e5]
            simp (disch := omega) only [wr]
            exact ih
          · simp [soFar] at ih ⊢
            simp [h1, hi, hx, e', d', dot_ext, e5]
            rw [if_pos ?q]
            case q => kernel_rfl
            simp [h1, hi, hx, e', d', dot_ext, e5]
            simp (disch := omega) only [wr]
            exact ih
    · have e' := eq_false e
      simp only [decide_eq_false e, Bool.false_and, Bool.not_false, Bool.and_true] at ih
      cases b
      · simp [soFar] at ih ⊢
        simp [h1, hi, hx, e', dot_ext]
        rw [if_pos ?q]
        case q => kernel_rfl
        simp [h1, hi, hx, e', dot_ext]
        simp (disch := omega) only [wr]
        exact ih
      · simp [soFar] at ih ⊢
        simp [h1, hi, hx, e', dot_ext]
        rw [if_pos ?q]
        case q => kernel_rfl
        simp [h1, hi, hx, e', dot_ext]
        simp (disch := omega) only [wr]
        exact ih
theorem rnorm_l0 (l : List Item) (hl : l.length < 1000000000) (n : Nat) : ∀ (i : Nat) (b : Bool), l.length = i + n → (b = false → normR l i = []) →
    ∃ b', A.lp 30 0 (hd30_0 [pv (lI l), soFar b (normR l i), iv i] []) = some (.exit 0, ex30_0 [soFar b' (normR l l.length)] []) ∧ (b' = false → normR l l.length = []) := by
  induction n with
  | zero =>
    intro i b hi hb
    obtain rfl : i = l.length := by omega
    refine ⟨b, ?_, hb⟩
    rw [lp_run hL Try.func30 rfl (by rfl) 0 rfl]
    cases b <;> simp [soFar]
  | succ n ih =>
    intro i b hi hb
    have h1 : i < l.length := by omega
    have h2 := rnorm_l2 l hl i h1 b (normR l i) l.length 0 (by omega)
    rw [show firstI l i l[i] 0 = true from rfl] at h2
    have e : normR l (i + 1) = if firstI l i l[i] l.length = true then putL (normR l i) l[i] else normR l i := by
      rw [normR, List.getElem?_eq_getElem h1]
    have h3 := rput (normR l i) l[i] (by have := normR_len l i; omega)
    by_cases c : firstI l i l[i] l.length = true
    · rw [if_pos c] at e
      obtain ⟨b', q1, q2⟩ := ih (i + 1) true (by omega) (by simp)
      refine ⟨b', ?_, q2⟩
      rw [e] at q1
      rw [c] at h2
      simp only [ag, encI, List.map_cons, List.map_nil] at h3
      rw [lp_run hL Try.func30 rfl (by rfl) 0 rfl]
      cases b
      · rw [hb rfl] at h2 h3 q1 ⊢
        simp only [lI, List.map_nil] at h3
        simp [soFar] at h2 q1 ⊢
        simp [h1, h2, h3]
        simp (disch := omega) only [wr]
        exact q1
      · simp [soFar] at h2 h3 q1 ⊢
        simp [h1, h2, h3]
        simp (disch := omega) only [wr]
        exact q1
    · rw [if_neg c] at e
      rw [Bool.not_eq_true] at c
      obtain ⟨b', q1, q2⟩ := ih (i + 1) b (by omega) (by rw [e]; exact hb)
      refine ⟨b', ?_, q2⟩
      rw [e] at q1
      rw [c] at h2
      rw [lp_run hL Try.func30 rfl (by rfl) 0 rfl]
      cases b
      · simp [soFar] at h2 q1 ⊢
        simp [h1, h2]
        simp (disch := omega) only [wr]
        exact q1
      · simp [soFar] at h2 q1 ⊢
        simp [h1, h2]
        simp (disch := omega) only [wr]
        exact q1
theorem rnorm (l : List Item) (hl : l.length < 1000000000) : A.fn 30 [pv (lI l)] [] = some (.one (pv (lI (normL l))), []) := by
  obtain ⟨b', h1, h2⟩ := rnorm_l0 l hl l.length 0 false (by omega) (fun _ => rfl)
  rw [normR_eq] at h1 h2
  rw [fn_run hL Try.func30 rfl L30 (by rfl) rfl rfl rfl (by decide)]
  cases b'
  · rw [h2 rfl] at h1 ⊢
    simp [soFar, normR] at h1
    simp [Try.f30, h1]
  · simp [soFar, normR] at h1
    simp [Try.f30, h1]
end Go.E2.S
