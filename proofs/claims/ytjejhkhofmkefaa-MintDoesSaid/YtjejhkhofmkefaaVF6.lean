/- The document's total of numbers. -/
import Derived.Test.YtjejhkhofmkefaaVF4
namespace Go.E2.S
open Go Go.E2 Go.RowKit Go.Proofs
open Go.E2.Lib (sortB compB)
set_option linter.unusedVariables false
set_option linter.unusedSimpArgs false
set_option maxHeartbeats 1000000
set_option maxRecDepth 10000
theorem radd (a b : Int) (ha : I64 a) (hb : I64 b) : A.fn 100 [iv a, iv b] [] = some (.tup [iv (tot (a + b)).1, iv (tot (a + b)).2], []) := by
  unfold I64 at ha hb
  rw [fn_run hL Try.func100 rfl L100 (by rfl) rfl rfl rfl (by decide)]
  unfold tot
  by_cases c0 : 0 < b
  · have w1 : IntKind.i64.wrap (9223372036854775807 - b) = 9223372036854775807 - b := wr _ (by omega) (by omega)
    have n : ¬ b < 0 := by omega
    by_cases c1 : 9223372036854775807 - b < a
    · have e : ¬ (-9223372036854775808 ≤ a + b ∧ a + b ≤ 9223372036854775807) := by omega
      rw [if_neg e]
      simp [Try.f100, c0, w1, c1, n]
    · have e : (-9223372036854775808 ≤ a + b ∧ a + b ≤ 9223372036854775807) := by omega
      have w2 : IntKind.i64.wrap (a + b) = a + b := wr _ (by omega) (by omega)
      rw [if_pos e]
      simp [Try.f100, c0, w1, c1, n, w2, -Int.not_lt]
  · by_cases c1 : b < 0
    · have w1 : IntKind.i64.wrap (-9223372036854775808 - b) = -9223372036854775808 - b := wr _ (by omega) (by omega)
      by_cases c2 : a < -9223372036854775808 - b
      · have e : ¬ (-9223372036854775808 ≤ a + b ∧ a + b ≤ 9223372036854775807) := by omega
        rw [if_neg e]
        simp [Try.f100, c0, w1, c1, c2, -Int.not_lt]
      · have e : (-9223372036854775808 ≤ a + b ∧ a + b ≤ 9223372036854775807) := by omega
        have w2 : IntKind.i64.wrap (a + b) = a + b := wr _ (by omega) (by omega)
        rw [if_pos e]
        simp [Try.f100, c0, w1, c1, c2, w2, -Int.not_lt]
    · have e : (-9223372036854775808 ≤ a + b ∧ a + b ≤ 9223372036854775807) := by omega
      have w2 : IntKind.i64.wrap (a + b) = a + b := wr _ (by omega) (by omega)
      rw [if_pos e]
      simp [Try.f100, c0, c1, w2, -Int.not_lt]
theorem tk (l : List Int) : (l.map encZ).take l.length = l.map encZ := List.take_of_length_le (by simp)
noncomputable def layR (T q : Int) : Exit × St := if -9223372036854775808 ≤ T ∧ T ≤ 9223372036854775807 then (.exit 2, ex63_2 [nov, nov, iv T] []) else (.ret, ex63_2 [iv 0, iv 5, iv q] [])
theorem layR_in {T q : Int} (h : -9223372036854775808 ≤ T ∧ T ≤ 9223372036854775807) : layR T q = (.exit 2, ex63_2 [nov, nov, iv T] []) := if_pos h
theorem layR_out {T q : Int} (h : ¬ (-9223372036854775808 ≤ T ∧ T ≤ 9223372036854775807)) : layR T q = (.ret, ex63_2 [iv 0, iv 5, iv q] []) := if_neg h
theorem rtot_lay (n : Nat) : ∀ (up down : List Int) (s : Int), up.length + down.length = n → n ≤ 1000000 →
    (∀ x ∈ up, 0 < x ∧ x ≤ 9223372036854775807) → (∀ x ∈ down, x < 0 ∧ -9223372036854775808 ≤ x) → I64 s →
      ∃ q, A.lp 63 2 (hd63_2 [pv (lZ up), pv (lZ down), iv s] []) = some (layR (s + up.sum + down.sum) q) := by
  induction n with
  | zero =>
    intro up down s hn _ hu hd hs
    obtain rfl : up = [] := List.length_eq_zero_iff.1 (by omega)
    obtain rfl : down = [] := List.length_eq_zero_iff.1 (by omega)
    refine ⟨0, ?_⟩
    have w0 : IntKind.i64.wrap 0 = 0 := rfl
    rw [lp_run hL Try.func63 rfl (by rfl) 2 rfl]
    unfold I64 at hs
    simp only [List.sum_nil, Int.add_zero]
    rw [layR_in hs]
    simp [w0]
  | succ n ih =>
    intro up down s hn hn2 hu hd hs
    unfold I64 at hs ih
    have su := sum_nonneg up hu
    have sd := sum_nonpos down hd
    have hw : IntKind.i64.wrap ((up.length : Int) + down.length) = up.length + down.length := wr _ (by omega) (by omega)
    have hpos : (0 : Int) < up.length + down.length := by omega
    by_cases c0 : s ≤ 0 ∧ 0 < up.length
    · obtain ⟨hs0, hl⟩ := c0
      match up, hl with
      | x :: up, _ =>
        have hx := hu x (by simp)
        simp only [List.length_cons, List.sum_cons, Int.natCast_add, Int.cast_ofNat_Int] at hn hw hpos su ⊢
        have w2 : IntKind.i64.wrap (s + x) = s + x := wr _ (by omega) (by omega)
        have hl1 : (0 : Int) < up.length + 1 := by omega
        have hl2 : (1 : Int) ≤ up.length + 1 := by omega
        have hw0 : IntKind.i64.wrap ((up.length : Int) + 1) = up.length + 1 := wr _ (by omega) (by omega)
        obtain ⟨q, ih⟩ := ih up down (s + x) (by omega) (by omega) (fun y hy => hu y (by simp [hy])) hd (by omega)
        rw [Int.add_assoc s x] at ih
        refine ⟨q, ?_⟩
        rw [lp_run hL Try.func63 rfl (by rfl) 2 rfl]
        simp [hw, hpos, hs0, hl1, hl2, hw0, w2, tk] at ih ⊢
        exact ih
    · by_cases c1 : 0 ≤ s ∧ 0 < down.length
      · obtain ⟨hs0, hl⟩ := c1
        match down, hl with
        | x :: down, _ =>
          have hx := hd x (by simp)
          simp only [List.length_cons, List.sum_cons, Int.natCast_add, Int.cast_ofNat_Int] at hn hw hpos sd ⊢
          have w2 : IntKind.i64.wrap (s + x) = s + x := wr _ (by omega) (by omega)
          have hl1 : (0 : Int) < down.length + 1 := by omega
          have hl2 : (1 : Int) ≤ down.length + 1 := by omega
          have hw0 : IntKind.i64.wrap ((down.length : Int) + 1) = down.length + 1 := wr _ (by omega) (by omega)
          obtain ⟨q, ih⟩ := ih up down (s + x) (by omega) (by omega) hu (fun y hy => hd y (by simp [hy])) (by omega)
          have e : s + up.sum + (x + down.sum) = s + x + up.sum + down.sum := by omega
          rw [e]
          refine ⟨q, ?_⟩
          rw [lp_run hL Try.func63 rfl (by rfl) 2 rfl]
          by_cases h2 : s ≤ 0
          · obtain rfl : up = [] := List.length_eq_zero_iff.1 (by omega)
            simp [hw, hpos, hs0, h2, hl1, hl2, hw0, w2, tk] at ih ⊢
            exact ih
          · simp [hw, hpos, hs0, h2, hl1, hl2, hw0, w2, tk, -Int.not_le] at ih ⊢
            exact ih
      · by_cases hu0 : 0 < up.length
        · obtain rfl : down = [] := List.length_eq_zero_iff.1 (by omega)
          match up, hu0 with
          | x :: up, _ =>
            have hx := hu x (by simp)
            have hu' : ∀ y ∈ up, 0 < y ∧ y ≤ 9223372036854775807 := fun y hy => hu y (by simp [hy])
            have su' := sum_nonneg up hu'
            simp only [List.length_cons, List.length_nil, List.sum_cons, List.sum_nil, Int.natCast_add, Int.cast_ofNat_Int, Int.add_zero] at hn hw hpos su c0 c1 ⊢
            have hl1 : (0 : Int) < up.length + 1 := by omega
            have hl2 : (1 : Int) ≤ up.length + 1 := by omega
            have hw0 : IntKind.i64.wrap ((up.length : Int) + 1) = up.length + 1 := wr _ (by omega) (by omega)
            have hs1 : ¬ s ≤ 0 := by omega
            have hs2 : 0 ≤ s := by omega
            have ra := radd s x (by unfold I64; omega) (by unfold I64; omega)
            by_cases hr : s + x ≤ 9223372036854775807
            · rw [tot_in (s + x) (by omega) hr] at ra
              obtain ⟨q, ih⟩ := ih up [] (s + x) (by simp; omega) (by omega) hu' (by simp) (by omega)
              simp only [List.sum_nil, Int.add_zero] at ih
              rw [Int.add_assoc s x] at ih
              refine ⟨q, ?_⟩
              rw [lp_run hL Try.func63 rfl (by rfl) 2 rfl]
              simp [hw, hpos, hs1, hs2, hl1, hl2, hw0, tk, ra, -Int.not_le] at ih ⊢
              exact ih
            · rw [tot_out (s + x) (by omega)] at ra
              refine ⟨s, ?_⟩
              have e : ¬ (-9223372036854775808 ≤ s + (x + up.sum) ∧ s + (x + up.sum) ≤ 9223372036854775807) := by omega
              rw [layR_out e]
              rw [lp_run hL Try.func63 rfl (by rfl) 2 rfl]
              simp [hw, hpos, hs1, hs2, hl1, hl2, hw0, tk, ra, -Int.not_le]
        · obtain rfl : up = [] := List.length_eq_zero_iff.1 (by omega)
          match down with
          | [] => simp at hn
          | x :: down =>
            have hx := hd x (by simp)
            have hd' : ∀ y ∈ down, y < 0 ∧ -9223372036854775808 ≤ y := fun y hy => hd y (by simp [hy])
            have sd' := sum_nonpos down hd'
            simp only [List.length_cons, List.length_nil, List.sum_cons, List.sum_nil, Int.natCast_add, Int.cast_ofNat_Int, Int.add_zero, Int.zero_add] at hn hw hpos sd c0 c1 ⊢
            have hl1 : (0 : Int) < down.length + 1 := by omega
            have hl2 : (1 : Int) ≤ down.length + 1 := by omega
            have hw0 : IntKind.i64.wrap ((down.length : Int) + 1) = down.length + 1 := wr _ (by omega) (by omega)
            have hs1 : s ≤ 0 := by omega
            have hs2 : ¬ 0 ≤ s := by omega
            have ra := radd s x (by unfold I64; omega) (by unfold I64; omega)
            by_cases hr : -9223372036854775808 ≤ s + x
            · rw [tot_in (s + x) hr (by omega)] at ra
              obtain ⟨q, ih⟩ := ih [] down (s + x) (by simp; omega) (by omega) (by simp) hd' (by omega)
              simp only [List.sum_nil, Int.add_zero] at ih
              rw [Int.add_assoc s x] at ih
              refine ⟨q, ?_⟩
              rw [lp_run hL Try.func63 rfl (by rfl) 2 rfl]
              simp [hw, hpos, hs1, hs2, hl1, hl2, hw0, tk, ra, -Int.not_le] at ih ⊢
              exact ih
            · rw [tot_out (s + x) (by omega)] at ra
              refine ⟨s, ?_⟩
              have e : ¬ (-9223372036854775808 ≤ s + (x + down.sum) ∧ s + (x + down.sum) ≤ 9223372036854775807) := by omega
              rw [layR_out e]
              rw [lp_run hL Try.func63 rfl (by rfl) 2 rfl]
              simp [hw, hpos, hs1, hs2, hl1, hl2, hw0, tk, ra, -Int.not_le]
def ups (l : List Int) : List Int := l.filter fun x => decide (0 < x)
def downs (l : List Int) : List Int := l.filter fun x => decide (x < 0)
theorem ups_downs (l : List Int) : (ups l).sum + (downs l).sum = l.sum := by
  induction l with
  | nil => rfl
  | cons x l ih =>
    unfold ups downs at *
    simp only [List.filter_cons]
    by_cases h1 : 0 < x
    · have h2 : ¬ x < 0 := by omega
      simp only [h1, h2, decide_true, decide_false, if_true, List.sum_cons, Bool.false_eq_true, if_false]; omega
    · by_cases h2 : x < 0
      · simp only [h1, h2, decide_true, decide_false, if_true, List.sum_cons, Bool.false_eq_true, if_false]; omega
      · simp only [h1, h2, decide_true, decide_false, if_true, List.sum_cons, Bool.false_eq_true, if_false]; omega
theorem ups_pos {x : Int} {l : List Int} (h : 0 < x) : ups (x :: l) = x :: ups l := List.filter_cons_of_pos (by simpa using h)
theorem ups_neg {x : Int} {l : List Int} (h : ¬ 0 < x) : ups (x :: l) = ups l := List.filter_cons_of_neg (by simpa using h)
theorem downs_pos {x : Int} {l : List Int} (h : x < 0) : downs (x :: l) = x :: downs l := List.filter_cons_of_pos (by simpa using h)
theorem downs_neg {x : Int} {l : List Int} (h : ¬ x < 0) : downs (x :: l) = downs l := List.filter_cons_of_neg (by simpa using h)
theorem rtot_part (l : List Int) (hl : l.length ≤ 1000000) (n : Nat) : ∀ (i : Nat) (up down : List Int), l.length = i + n → up.length ≤ i → down.length ≤ i →
    A.lp 63 0 (hd63_0 [pv (lZ l), .at (.row 2000 0), .at (.row 2001 0), iv i] [(2000, 0, some (.row true 1 (up.map encZ))), (2001, 0, some (.row true 1 (down.map encZ)))]) =
      some (.exit 0, ex63_0 [.at (.row 2000 0), .at (.row 2001 0)] [(2000, 0, some (.row true 1 ((up ++ ups (l.drop i)).map encZ))), (2001, 0, some (.row true 1 ((down ++ downs (l.drop i)).map encZ)))]) := by
  induction n with
  | zero =>
    intro i up down h h1 h2
    obtain rfl : i = l.length := by omega
    rw [lp_run hL Try.func63 rfl (by rfl) 0 rfl]
    simp [ups, downs]
  | succ n ih =>
    intro i up down h h1 h2
    have hi : i < l.length := by omega
    have w1 : IntKind.i64.wrap ((i : Int) + 1) = i + 1 := wr _ (by omega) (by omega)
    have l1 : (up.length + 1) * 9 ≤ 70368744177664 := by omega
    have l2 : (down.length + 1) * 9 ≤ 70368744177664 := by omega
    rw [List.drop_eq_getElem_cons hi]
    by_cases c1 : 0 < l[i]
    · have c2 : ¬ l[i] < 0 := by omega
      have ih := ih (i + 1) (up ++ [l[i]]) down (by omega) (by simp; omega) (by omega)
      rw [ups_pos c1, downs_neg c2, List.append_cons]
      rw [lp_run hL Try.func63 rfl (by rfl) 0 rfl]
      simp [hi, c1, c2, w1, l1, -Int.not_lt] at ih ⊢
      exact ih
    · by_cases c2 : l[i] < 0
      · have ih := ih (i + 1) up (down ++ [l[i]]) (by omega) (by omega) (by simp; omega)
        rw [ups_neg c1, downs_pos c2, List.append_cons down]
        rw [lp_run hL Try.func63 rfl (by rfl) 0 rfl]
        simp [hi, c1, c2, w1, l2, -Int.not_lt] at ih ⊢
        exact ih
      · have ih := ih (i + 1) up down (by omega) (by omega) (by omega)
        rw [ups_neg c1, downs_neg c2]
        rw [lp_run hL Try.func63 rfl (by rfl) 0 rfl]
        simp [hi, c1, c2, w1, -Int.not_lt] at ih ⊢
        exact ih
theorem rtotal (l : List Int) (hl : l.length ≤ 1000000) (hw : ∀ x ∈ l, I64 x) : A.fn 63 [pv (lZ l)] [] = some (.tup [iv (tot l.sum).1, iv (tot l.sum).2], []) := by
  have h0 := rtot_part l hl l.length 0 [] [] (by omega) (by simp) (by simp)
  have hu : (ups l).length + (downs l).length ≤ l.length := by
    unfold ups downs
    clear h0 hw hl
    induction l with
    | nil => simp
    | cons x l ih =>
      simp only [List.filter_cons, List.length_cons]
      by_cases h1 : 0 < x
      · have h2 : ¬ x < 0 := by omega
        simp only [h1, h2, decide_true, decide_false, if_true, List.length_cons, Bool.false_eq_true, if_false]; omega
      · by_cases h2 : x < 0
        · simp only [h1, h2, decide_true, decide_false, if_true, List.length_cons, Bool.false_eq_true, if_false]; omega
        · simp only [h1, h2, decide_true, decide_false, if_true, List.length_cons, Bool.false_eq_true, if_false]; omega
  obtain ⟨q, h1⟩ := rtot_lay ((ups l).length + (downs l).length) (ups l) (downs l) 0 rfl (by omega) (fun x hx => by
    have := hw x ((List.mem_filter.1 hx).1)
    have h3 := (List.mem_filter.1 hx).2
    simp at h3
    exact ⟨h3, this.2⟩) (fun x hx => by
    have := hw x ((List.mem_filter.1 hx).1)
    have h3 := (List.mem_filter.1 hx).2
    simp at h3
    exact ⟨h3, this.1⟩) (by unfold I64; omega)
  rw [Int.zero_add, ups_downs] at h1
  rw [fn_run hL Try.func63 rfl L63 (by rfl) rfl rfl rfl (by decide)]
  unfold tot
  by_cases e : -9223372036854775808 ≤ l.sum ∧ l.sum ≤ 9223372036854775807
  · rw [layR_in e] at h1
    rw [if_pos e]
    simp at h0 h1 ⊢
    simp [Try.f63, h0, h1]
  · rw [layR_out e] at h1
    rw [if_neg e]
    simp at h0 h1 ⊢
    simp [Try.f63, h0, h1]
end Go.E2.S
