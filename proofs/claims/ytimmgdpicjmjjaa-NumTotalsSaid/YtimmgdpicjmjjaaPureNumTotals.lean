/- any numbers, of which the first 200 are looked at, have the reference's total. No condition beyond the row's own. -/
import Derived.Test.YtimmgdpicjmjjaaPNumTotalsx3
import Derived.Laws.BitsLemmas
namespace Go.Proofs.Ytimmgdpicjmjjaa.Pure
open Go.RowKit Go.Proofs.Ytimmgdpicjmjjaa.PNumTotals Go.Proofs.YtimmgdpicjmjjaaW.PrintWords Go.Proofs.YtimmgdpicjmjjaaW.PrintLast Go.Proofs.YtimmgdpicjmjjaaW.PrintMore

theorem and_mask (x : Int) (_h0 : -9223372036854775808 ≤ x) (_h1 : x ≤ 9223372036854775807) : Go.bits .and .i64 x 4294967295 = x % 4294967296 := by
  have hm : (BitVec.ofInt 64 (4294967295 : Int)).toNat = 2 ^ 32 - 1 := by decide
  have hx : (BitVec.ofInt 64 x).toNat = (x % 18446744073709551616).toNat := by rw [BitVec.toNat_ofInt]; rfl
  show IntKind.i64.wrap ((BitVec.ofInt 64 x &&& BitVec.ofInt 64 4294967295).toNat : Int) = _
  rw [BitVec.toNat_and, hm, hx, Nat.and_two_pow_sub_one_eq_mod, IntKind.wrap_i64]
  have h2 : (2 : Nat) ^ 32 = 4294967296 := by decide
  rw [h2]
  omega

theorem or_join (h y : Int) (h0 : -2147483648 ≤ h) (h1 : h < 2147483648) (y0 : 0 ≤ y) (y1 : y < 4294967296) : Go.bits .or .i64 (h * 4294967296) y = h * 4294967296 + y := by
  have h2 : (2 : Nat) ^ 32 = 4294967296 := by decide
  have h3 : ((2 ^ 64 : Nat) : Int) = 18446744073709551616 := by decide
  have hx : (BitVec.ofInt 64 (h * 4294967296)).toNat = 2 ^ 32 * (h % 4294967296).toNat := by
    rw [BitVec.toNat_ofInt, h2, h3]; omega
  have hy : (BitVec.ofInt 64 y).toNat = y.toNat := by
    rw [BitVec.toNat_ofInt, h3]; omega
  show IntKind.i64.wrap ((BitVec.ofInt 64 (h * 4294967296) ||| BitVec.ofInt 64 y).toNat : Int) = _
  rw [BitVec.toNat_or, hx, hy, ← Nat.two_pow_add_eq_or_of_lt (by rw [h2]; omega), IntKind.wrap_i64, h2]
  omega

/-- A number of int64. -/
def I64 (x : Int) : Prop := -9223372036854775808 ≤ x ∧ x ≤ 9223372036854775807

theorem wf64 {x : Int} (h : (Lit.int .i64 x).wf = true) : I64 x := by
  simp [Lit.wf, IntKind.min, IntKind.max, IntKind.bits, IntKind.signed] at h
  unfold I64
  omega

/-- What the total of a list is: its sum, or too great. -/
def tot (s : Int) : Int × Int := if -9223372036854775808 ≤ s ∧ s ≤ 9223372036854775807 then (s, 0) else (0, 5)

theorem wrap_in (x : Int) (h0 : -9223372036854775808 ≤ x) (h1 : x ≤ 9223372036854775807) : wrap64 x = x := by
  unfold wrap64; omega

theorem rd_nat (l : List Int) (i : Nat) (h : i < l.length) : rd l (i : Int) = l[i] := by
  simp [rd, List.getD, h]

theorem sum_take (l : List Int) (i : Nat) (h : i < l.length) : (l.take (i + 1)).sum = (l.take i).sum + l[i] := by
  rw [List.take_succ_eq_append_getElem h, List.sum_append]; simp

theorem i64_at (l : List Int) (hw : ∀ x ∈ l, I64 x) (i : Nat) (h : i < l.length) : I64 l[i] := hw _ (List.getElem_mem h)

theorem total_loop (l : List Int) (hl : l.length ≤ 1073741824) (hw : ∀ x ∈ l, I64 x) (d : Nat) :
    ∀ (k i : Nat) (hi lo : Int), i + d = l.length → d < k → hi * 4294967296 + lo = (l.take i).sum → -2147483648 * (i : Int) ≤ hi → hi ≤ 2147483648 * (i : Int) → 0 ≤ lo → lo ≤ 4294967295 * (i : Int) →
      num_Total.l0 k hi lo l (l.length : Int) (i : Int) = some (tot l.sum) := by
  induction d with
  | zero =>
    intro k i hi lo hd hk hs h1 h2 h3 h4
    obtain ⟨k, rfl⟩ : ∃ m, k = m + 1 := ⟨k - 1, by omega⟩
    have hi' : i = l.length := by omega
    have hs' : hi * 4294967296 + lo = l.sum := by rw [hs, hi', List.take_length]
    simp only [num_Total.l0]
    rw [if_neg (by omega)]
    rw [wrap_in _ (by omega) (by omega), and_mask lo (by omega) (by omega)]
    unfold tot
    by_cases ha : hi + lo / 4294967296 < -2147483648
    · rw [if_pos ha, if_neg (by omega)]
    · rw [if_neg ha]
      by_cases hb : hi + lo / 4294967296 ≥ 2147483648
      · rw [if_pos hb, if_neg (by omega)]
      · rw [if_neg hb, if_pos (by omega), wrap_in _ (by omega) (by omega), or_join _ _ (by omega) (by omega) (by omega) (by omega)]
        congr 2
        omega
  | succ d ih =>
    intro k i hi lo hd hk hs h1 h2 h3 h4
    obtain ⟨k, rfl⟩ : ∃ m, k = m + 1 := ⟨k - 1, by omega⟩
    have hlt : i < l.length := by omega
    have hx := i64_at l hw i hlt
    unfold I64 at hx
    simp only [num_Total.l0]
    rw [if_pos (by omega), if_pos (by omega), if_pos (by omega), rd_nat l i hlt, and_mask _ hx.1 hx.2]
    rw [wrap_in (hi + _) (by omega) (by omega), wrap_in (lo + _) (by omega) (by omega), wrap_in ((i : Int) + 1) (by omega) (by omega)]
    exact ih k (i + 1) _ _ (by omega) (by omega) (by rw [sum_take l i hlt, ← hs]; omega) (by omega) (by omega) (by omega) (by omega)

theorem total_is (k : Nat) (l : List Int) (hl : l.length ≤ 1073741824) (hw : ∀ x ∈ l, I64 x) (hk : l.length < k) : num_Total.f k l = some (tot l.sum) := by
  unfold num_Total.f
  rw [if_neg (by omega)]
  exact total_loop l hl hw l.length k 0 0 0 (by omega) hk (by simp) (by omega) (by omega) (by omega) (by omega)

theorem add_is (a b : Int) (ha : I64 a) (hb : I64 b) : num_Add.f a b = some (tot (a + b)) := by
  unfold I64 at ha hb
  unfold num_Add.f tot wrap64
  split <;> split <;> (try split) <;> (try split) <;> (try split) <;> (try split) <;> (try split) <;> first | omega | (congr 2; done) | (congr 2; omega)

theorem awake_is (k : Nat) (hk : 3 < k) : butterylaw01_awake.f k = some true := by
  unfold butterylaw01_awake.f
  rw [total_is k _ (by simp) (by simp [I64]) (by simpa using hk), add_is 2 3 (by simp [I64]) (by simp [I64])]
  rfl

theorem sum_perm {l m : List Int} (h : l.Perm m) : l.sum = m.sum := by
  induction h with
  | nil => rfl
  | cons x _ ih => simp [ih]
  | swap x y l => simp only [List.sum_cons]; omega
  | trans _ _ i j => exact i.trans j

theorem mn_nat (n : Nat) : mn (n : Int) 200 = ((min n 200 : Nat) : Int) := by
  unfold mn; omega

theorem ref_add (a b : Int) (ha : I64 a) (hb : I64 b) : butteryref01_Add.f a b = some (tot (a + b)) := by
  unfold I64 at ha hb
  unfold butteryref01_Add.f tot wrap64
  split <;> (try split) <;> (try split) <;> (try split) <;> (try split) <;> (try split) <;> first | omega | (congr 2; done) | (congr 2; omega)

theorem sum_nonneg (l : List Int) (h : ∀ x ∈ l, 0 < x ∧ x ≤ 9223372036854775807) : 0 ≤ l.sum := by
  induction l with
  | nil => simp
  | cons x l ih =>
    have h1 := h x (by simp)
    have h2 := ih (fun y hy => h y (by simp [hy]))
    simp only [List.sum_cons]; omega

theorem sum_nonpos (l : List Int) (h : ∀ x ∈ l, x < 0 ∧ -9223372036854775808 ≤ x) : l.sum ≤ 0 := by
  induction l with
  | nil => simp
  | cons x l ih =>
    have h1 := h x (by simp)
    have h2 := ih (fun y hy => h y (by simp [hy]))
    simp only [List.sum_cons]; omega

theorem tot_in (s : Int) (h0 : -9223372036854775808 ≤ s) (h1 : s ≤ 9223372036854775807) : tot s = (s, 0) := by
  unfold tot; rw [if_pos ⟨h0, h1⟩]

theorem tot_out (s : Int) (h : s < -9223372036854775808 ∨ 9223372036854775807 < s) : tot s = (0, 5) := by
  unfold tot; rw [if_neg (by omega)]

theorem rd_head (x : Int) (l : List Int) : rd (x :: l) 0 = x := rfl

/-- The two lists against each other. -/
theorem ref_lay (n : Nat) : ∀ (up down : List Int) (s : Int) (k : Nat), up.length + down.length = n → n ≤ 200 → 3 * n < k →
    (∀ x ∈ up, 0 < x ∧ x ≤ 9223372036854775807) → (∀ x ∈ down, x < 0 ∧ -9223372036854775808 ≤ x) → -9223372036854775808 ≤ s → s ≤ 9223372036854775807 →
      butteryref01_Total.l1 k up down s = some (tot (s + up.sum + down.sum)) := by
  induction n with
  | zero =>
    intro up down s k hn _ hk hu hd h0 h1
    obtain ⟨k, rfl⟩ : ∃ m, k = m + 1 := ⟨k - 1, by omega⟩
    have e1 : up = [] := List.length_eq_zero_iff.1 (by omega)
    have e2 : down = [] := List.length_eq_zero_iff.1 (by omega)
    subst e1 e2
    simp only [butteryref01_Total.l1]
    rw [if_neg (by simp [wrap64])]
    rw [tot_in _ (by simp; omega) (by simp; omega)]
    simp
  | succ n ih =>
    intro up down s k hn hn2 hk hu hd h0 h1
    obtain ⟨k, rfl⟩ : ∃ m, k = m + 3 := ⟨k - 3, by omega⟩
    have hj : wrap64 ((up.length : Int) + (down.length : Int)) > 0 := by rw [wrap_in _ (by omega) (by omega)]; omega
    have su := sum_nonneg up hu
    have sd := sum_nonpos down hd
    rw [show butteryref01_Total.l1 (k + 3) up down s = butteryref01_Total.j2 (k + 2) up down s (decide (s ≤ 0) && decide ((up.length : Int) > 0)) by
      simp only [butteryref01_Total.l1]
      rw [if_pos hj]
      by_cases hs : s ≤ 0 <;> simp [hs]]
    by_cases hc : s ≤ 0 ∧ 0 < up.length
    · obtain ⟨hs, hl⟩ := hc
      match up, hl with
      | x :: up, _ =>
        have hx := hu x (by simp)
        simp only [List.length_cons] at hn
        simp only [butteryref01_Total.j2]
        rw [if_pos (by simp [hs]), if_pos (by simp), if_pos (by simp; omega), rd_head, wrap_in _ (by omega) (by omega)]
        rw [show (x :: up).drop (1 : Int).toNat = up from rfl]
        rw [ih up down (s + x) (k + 1) (by omega) (by omega) (by omega) (fun y hy => hu y (by simp [hy])) hd (by omega) (by omega)]
        simp only [List.sum_cons]
        congr 2; omega
    · have hf : (decide (s ≤ 0) && decide ((up.length : Int) > 0)) = false := by
        rw [Bool.eq_false_iff]; intro h; simp at h; omega
      rw [hf]
      rw [show butteryref01_Total.j2 (k + 2) up down s false = butteryref01_Total.j3 (k + 1) up down s (decide (s ≥ 0) && decide ((down.length : Int) > 0)) by
        simp only [butteryref01_Total.j2]
        by_cases hs : s ≥ 0 <;> simp [hs]]
      by_cases hc2 : s ≥ 0 ∧ 0 < down.length
      · obtain ⟨hs, hl⟩ := hc2
        match down, hl with
        | x :: down, _ =>
          have hx := hd x (by simp)
          simp only [List.length_cons] at hn
          simp only [butteryref01_Total.j3]
          rw [if_pos (by simp [hs]), if_pos (by simp), if_pos (by simp; omega), rd_head, wrap_in _ (by omega) (by omega)]
          rw [show (x :: down).drop (1 : Int).toNat = down from rfl]
          rw [ih up down (s + x) k (by omega) (by omega) (by omega) hu (fun y hy => hd y (by simp [hy])) (by omega) (by omega)]
          simp only [List.sum_cons]
          congr 2; omega
      · have hf2 : (decide (s ≥ 0) && decide ((down.length : Int) > 0)) = false := by
          rw [Bool.eq_false_iff]; intro h; simp at h; omega
        rw [hf2]
        simp only [butteryref01_Total.j3]
        rw [if_neg (by simp)]
        by_cases hu0 : 0 < up.length
        · have hd0 : down = [] := List.length_eq_zero_iff.1 (by omega)
          subst hd0
          match up, hu0 with
          | x :: up, _ =>
            have hx := hu x (by simp)
            have hu' : ∀ y ∈ up, 0 < y ∧ y ≤ 9223372036854775807 := fun y hy => hu y (by simp [hy])
            have su' := sum_nonneg up hu'
            simp only [List.length_cons, List.length_nil] at hn
            rw [if_pos (by simp), if_pos (by simp), if_pos (by simp; omega), rd_head, ref_add s x ⟨h0, h1⟩ ⟨by omega, by omega⟩]
            rw [show (x :: up).drop (1 : Int).toNat = up from rfl]
            simp only [Option.bind_some, List.sum_cons, List.sum_nil]
            by_cases hr : s + x ≤ 9223372036854775807
            · rw [tot_in (s + x) (by omega) hr, if_pos rfl]
              rw [ih up [] (s + x) k (by simpa using hn) (by omega) (by omega) hu' (by simp) (by omega) (by omega)]
              simp only [List.sum_nil]
              congr 2; omega
            · rw [tot_out (s + x) (by omega), if_neg (by decide), tot_out _ (by omega)]
        · have hu1 : up = [] := List.length_eq_zero_iff.1 (by omega)
          subst hu1
          match down with
          | [] => simp at hn
          | x :: down =>
            have hx := hd x (by simp)
            have hd' : ∀ y ∈ down, y < 0 ∧ -9223372036854775808 ≤ y := fun y hy => hd y (by simp [hy])
            have sd' := sum_nonpos down hd'
            simp only [List.length_cons, List.length_nil] at hn
            have hs0 : s < 0 := by
              rcases Int.lt_or_le s 0 with h | h
              · exact h
              · exact absurd ⟨h, by simp⟩ hc2
            rw [if_neg (by simp), if_pos (by simp), if_pos (by simp; omega), rd_head, ref_add s x ⟨h0, h1⟩ ⟨by omega, by omega⟩]
            rw [show (x :: down).drop (1 : Int).toNat = down from rfl]
            simp only [Option.bind_some, List.sum_cons, List.sum_nil]
            by_cases hr : -9223372036854775808 ≤ s + x
            · rw [tot_in (s + x) hr (by omega), if_pos rfl]
              rw [ih [] down (s + x) k (by simp; omega) (by omega) (by omega) (by simp) hd' (by omega) (by omega)]
              simp only [List.sum_nil]
              congr 2; omega
            · rw [tot_out (s + x) (by omega), if_neg (by decide), tot_out _ (by omega)]

theorem mem_snoc {P : Int → Prop} {l : List Int} {a : Int} (h : ∀ x ∈ l, P x) (ha : P a) : ∀ x ∈ l ++ [a], P x := by
  intro x hx
  rcases List.mem_append.1 hx with h1 | h1
  · exact h x h1
  · simp at h1; rw [h1]; exact ha

theorem ref_part (l : List Int) (hl : l.length ≤ 200) (hw : ∀ x ∈ l, I64 x) (d : Nat) :
    ∀ (k i : Nat) (up down : List Int), i + d = l.length → d + 1 + 3 * (up.length + down.length + d) < k → up.length + down.length ≤ i → up.sum + down.sum = (l.take i).sum →
      (∀ x ∈ up, 0 < x ∧ x ≤ 9223372036854775807) → (∀ x ∈ down, x < 0 ∧ -9223372036854775808 ≤ x) →
      butteryref01_Total.l0 k l up down (i : Int) = some (tot l.sum) := by
  induction d with
  | zero =>
    intro k i up down hd hk hn hs hu hv
    obtain ⟨k, rfl⟩ : ∃ m, k = m + 1 := ⟨k - 1, by omega⟩
    have hi' : i = l.length := by omega
    simp only [butteryref01_Total.l0]
    rw [if_neg (by omega), ref_lay (up.length + down.length) up down 0 k rfl (by omega) (by omega) hu hv (by omega) (by omega)]
    rw [hi', List.take_length] at hs
    rw [Int.zero_add, hs]
  | succ d ih =>
    intro k i up down hd hk hn hs hu hv
    obtain ⟨k, rfl⟩ : ∃ m, k = m + 1 := ⟨k - 1, by omega⟩
    have hlt : i < l.length := by omega
    have hc0 : up.length ≤ 200 := by omega
    have hc00 : down.length ≤ 200 := by omega
    have g1 : i + 1 + d = l.length := by omega
    have g2 : d + 1 + 3 * (up.length + 1 + down.length + d) < k := by omega
    have g3 : d + 1 + 3 * (up.length + (down.length + 1) + d) < k := by omega
    have g4 : d + 1 + 3 * (up.length + down.length + d) < k := by omega
    have g5 : up.length + 1 + down.length ≤ i + 1 := by omega
    have g6 : up.length + (down.length + 1) ≤ i + 1 := by omega
    have g7 : up.length + down.length ≤ i + 1 := by omega
    have hc1 : (i : Int) < (l.length : Int) := by omega
    have hc2 : 0 ≤ (i : Int) := Int.natCast_nonneg i
    have hx := i64_at l hw i hlt
    have hs2 := sum_take l i hlt
    rw [← hs] at hs2
    have hs3 : (up ++ [l[i]]).sum + down.sum = (l.take (i + 1)).sum := by rw [hs2, List.sum_append]; simp only [List.sum_cons, List.sum_nil, Int.add_zero]; exact Int.add_right_comm _ _ _
    have hs4 : up.sum + (down ++ [l[i]]).sum = (l.take (i + 1)).sum := by rw [hs2, List.sum_append]; simp only [List.sum_cons, List.sum_nil, Int.add_zero]; exact (Int.add_assoc _ _ _).symm
    clear hd hk hn hs
    simp only [butteryref01_Total.l0]
    rw [if_pos hc1, if_pos hc2, rd_nat l i hlt, show wrap64 ((i : Int) + 1) = ((i + 1 : Nat) : Int) from wrap_in _ (by omega) (by omega)]
    by_cases hp : l[i] > 0
    · rw [if_pos hp, if_pos (Nat.lt_of_le_of_lt hc0 (by decide))]
      simp only [Option.bind_some]
      rw [if_neg (Int.not_lt.2 (Int.le_of_lt hp))]
      exact ih k (i + 1) (up ++ [l[i]]) down g1 (by rw [List.length_append]; exact g2) (by rw [List.length_append]; exact g5) hs3 (mem_snoc hu ⟨hp, hx.2⟩) hv
    · rw [if_neg hp]
      by_cases hq : l[i] < 0
      · rw [if_pos hq, if_pos (Nat.lt_of_le_of_lt hc00 (by decide))]
        exact ih k (i + 1) up (down ++ [l[i]]) g1 (by rw [List.length_append]; exact g3) (by rw [List.length_append]; exact g6) hs4 hu (mem_snoc hv ⟨hq, hx.1⟩)
      · rw [if_neg hq]
        have h0 : l[i] = 0 := Int.le_antisymm (Int.not_lt.1 hp) (Int.not_lt.1 hq)
        exact ih k (i + 1) up down g1 g4 g7 (by rw [hs2, h0, Int.add_zero]) hu hv

theorem ref_total (k : Nat) (l : List Int) (hl : l.length ≤ 200) (hw : ∀ x ∈ l, I64 x) (hk : 900 < k) : butteryref01_Total.f k l = some (tot l.sum) := by
  unfold butteryref01_Total.f
  exact ref_part l hl hw l.length k 0 [] [] (Nat.zero_add _) (by simp only [List.length_nil]; omega) (by simp) (by simp) (by simp) (by simp)

theorem totals_at (k : Nat) (hk : 900 < k) (l : List Int) (hw : ∀ x ∈ l, I64 x) : butterylaw01_NumTotals.f k l = some true := by
  have hw' : ∀ x ∈ l.take (min l.length 200), I64 x := fun x hx => hw x (List.mem_of_mem_take hx)
  have hl' : (l.take (min l.length 200)).length ≤ 200 := by rw [List.length_take]; omega
  unfold butterylaw01_NumTotals.f
  rw [awake_is _ (by omega)]
  simp only [Option.bind_some, if_true]
  rw [mn_nat, if_pos (by omega), if_pos (by omega), Int.toNat_natCast, total_is _ _ (by omega) hw' (by omega)]
  rw [ref_total _ _ hl' hw' (by omega)]
  simp only [Option.bind_some]
  simp

theorem NumTotals : butterylaw01_NumTotals.Pure := fun l _ _ hw => ⟨1000, totals_at 1000 (by omega) l fun x hx => wf64 (hw x hx)⟩

end Go.Proofs.Ytimmgdpicjmjjaa.Pure
