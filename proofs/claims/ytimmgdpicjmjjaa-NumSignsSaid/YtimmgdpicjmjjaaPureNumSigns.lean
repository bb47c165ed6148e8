/- with all signs turned a total of at most 200 numbers is its opposite, or as much too great. No condition beyond the row's own. -/
import Derived.Test.YtimmgdpicjmjjaaPNumSignsx1
import Derived.Laws.BitsLemmas
namespace Go.Proofs.Ytimmgdpicjmjjaa.Pure
open Go.RowKit Go.Proofs.Ytimmgdpicjmjjaa.PNumSigns Go.Proofs.YtimmgdpicjmjjaaW.PrintWords Go.Proofs.YtimmgdpicjmjjaaW.PrintLast Go.Proofs.YtimmgdpicjmjjaaW.PrintMore

theorem and_mask (x : Int) (_h0 : -9223372036854775808 ≤ x) (_h1 : x ≤ 9223372036854775807) : Go.bits .and .i64 x 4294967295 = x % 4294967296 := by
  have hm : (BitVec.ofInt 64 (4294967295 : Int)).toNat = 2 ^ 32 - 1 := by decide
  have hx : (BitVec.ofInt 64 x).toNat = (x % 18446744073709551616).toNat := by rw [BitVec.toNat_ofInt]; rfl
  show IntKind.i64.wrap ((BitVec.ofInt 64 x &&& BitVec.ofInt 64 4294967295).toNat : Int) = _
  rw [BitVec.toNat_and, hm, hx, Nat.and_two_pow_sub_one_eq_mod, IntKind.wrap_i64]
  have h2 : (2 : Nat) ^ 32 = 4294967296 := by decide
  rw [h2]
  omega

theorem or_join (h y : Int) (h0 : -2147483648 ≤ h) (h1 : h < 2147483648) (y0 : 0 ≤ y) (y1 : y < 4294967296) : Go.bits .or .i64 (h * 4294967296) y = h * 4294967296 + y := by
  have h2 : (2 : Nat) ^ 32 = 4294967296 := by decide
  have h3 : ((2 ^ 64 : Nat) : Int) = 18446744073709551616 := by decide
  have hx : (BitVec.ofInt 64 (h * 4294967296)).toNat = 2 ^ 32 * (h % 4294967296).toNat := by
    rw [BitVec.toNat_ofInt, h2, h3]; omega
  have hy : (BitVec.ofInt 64 y).toNat = y.toNat := by
    rw [BitVec.toNat_ofInt, h3]; omega
  show IntKind.i64.wrap ((BitVec.ofInt 64 (h * 4294967296) ||| BitVec.ofInt 64 y).toNat : Int) = _
  rw [BitVec.toNat_or, hx, hy, ← Nat.two_pow_add_eq_or_of_lt (by rw [h2]; omega), IntKind.wrap_i64, h2]
  omega

/-- A number of int64. -/
def I64 (x : Int) : Prop := -9223372036854775808 ≤ x ∧ x ≤ 9223372036854775807

theorem wf64 {x : Int} (h : (Lit.int .i64 x).wf = true) : I64 x := by
  simp [Lit.wf, IntKind.min, IntKind.max, IntKind.bits, IntKind.signed] at h
  unfold I64
  omega

/-- What the total of a list is: its sum, or too great. -/
def tot (s : Int) : Int × Int := if -9223372036854775808 ≤ s ∧ s ≤ 9223372036854775807 then (s, 0) else (0, 5)

theorem wrap_in (x : Int) (h0 : -9223372036854775808 ≤ x) (h1 : x ≤ 9223372036854775807) : wrap64 x = x := by
  unfold wrap64; omega

theorem rd_nat (l : List Int) (i : Nat) (h : i < l.length) : rd l (i : Int) = l[i] := by
  simp [rd, List.getD, h]

theorem sum_take (l : List Int) (i : Nat) (h : i < l.length) : (l.take (i + 1)).sum = (l.take i).sum + l[i] := by
  rw [List.take_succ_eq_append_getElem h, List.sum_append]; simp

theorem i64_at (l : List Int) (hw : ∀ x ∈ l, I64 x) (i : Nat) (h : i < l.length) : I64 l[i] := hw _ (List.getElem_mem h)

theorem total_loop (l : List Int) (hl : l.length ≤ 1073741824) (hw : ∀ x ∈ l, I64 x) (d : Nat) :
    ∀ (k i : Nat) (hi lo : Int), i + d = l.length → d < k → hi * 4294967296 + lo = (l.take i).sum → -2147483648 * (i : Int) ≤ hi → hi ≤ 2147483648 * (i : Int) → 0 ≤ lo → lo ≤ 4294967295 * (i : Int) →
      num_Total.l0 k hi lo l (l.length : Int) (i : Int) = some (tot l.sum) := by
  induction d with
  | zero =>
    intro k i hi lo hd hk hs h1 h2 h3 h4
    obtain ⟨k, rfl⟩ : ∃ m, k = m + 1 := ⟨k - 1, by omega⟩
    have hi' : i = l.length := by omega
    have hs' : hi * 4294967296 + lo = l.sum := by rw [hs, hi', List.take_length]
    simp only [num_Total.l0]
    rw [if_neg (by omega)]
    rw [wrap_in _ (by omega) (by omega), and_mask lo (by omega) (by omega)]
    unfold tot
    by_cases ha : hi + lo / 4294967296 < -2147483648
    · rw [if_pos ha, if_neg (by omega)]
    · rw [if_neg ha]
      by_cases hb : hi + lo / 4294967296 ≥ 2147483648
      · rw [if_pos hb, if_neg (by omega)]
      · rw [if_neg hb, if_pos (by omega), wrap_in _ (by omega) (by omega), or_join _ _ (by omega) (by omega) (by omega) (by omega)]
        congr 2
        omega
  | succ d ih =>
    intro k i hi lo hd hk hs h1 h2 h3 h4
    obtain ⟨k, rfl⟩ : ∃ m, k = m + 1 := ⟨k - 1, by omega⟩
    have hlt : i < l.length := by omega
    have hx := i64_at l hw i hlt
    unfold I64 at hx
    simp only [num_Total.l0]
    rw [if_pos (by omega), if_pos (by omega), if_pos (by omega), rd_nat l i hlt, and_mask _ hx.1 hx.2]
    rw [wrap_in (hi + _) (by omega) (by omega), wrap_in (lo + _) (by omega) (by omega), wrap_in ((i : Int) + 1) (by omega) (by omega)]
    exact ih k (i + 1) _ _ (by omega) (by omega) (by rw [sum_take l i hlt, ← hs]; omega) (by omega) (by omega) (by omega) (by omega)

theorem total_is (k : Nat) (l : List Int) (hl : l.length ≤ 1073741824) (hw : ∀ x ∈ l, I64 x) (hk : l.length < k) : num_Total.f k l = some (tot l.sum) := by
  unfold num_Total.f
  rw [if_neg (by omega)]
  exact total_loop l hl hw l.length k 0 0 0 (by omega) hk (by simp) (by omega) (by omega) (by omega) (by omega)

theorem add_is (a b : Int) (ha : I64 a) (hb : I64 b) : num_Add.f a b = some (tot (a + b)) := by
  unfold I64 at ha hb
  unfold num_Add.f tot wrap64
  split <;> split <;> (try split) <;> (try split) <;> (try split) <;> (try split) <;> (try split) <;> first | omega | (congr 2; done) | (congr 2; omega)

theorem awake_is (k : Nat) (hk : 3 < k) : butterylaw01_awake.f k = some true := by
  unfold butterylaw01_awake.f
  rw [total_is k _ (by simp) (by simp [I64]) (by simpa using hk), add_is 2 3 (by simp [I64]) (by simp [I64])]
  rfl

theorem sum_perm {l m : List Int} (h : l.Perm m) : l.sum = m.sum := by
  induction h with
  | nil => rfl
  | cons x _ ih => simp [ih]
  | swap x y l => simp only [List.sum_cons]; omega
  | trans _ _ i j => exact i.trans j

theorem mn_nat (n : Nat) : mn (n : Int) 200 = ((min n 200 : Nat) : Int) := by
  unfold mn; omega

theorem neg_sum (l : List Int) : (l.map fun x => -x).sum = -l.sum := by
  induction l with
  | nil => rfl
  | cons x l ih => simp only [List.map_cons, List.sum_cons, ih]; omega

theorem signs_end (k : Nat) (l m : List Int) (hk : 300 < k) (hl : l.length ≤ 200) (hw : ∀ x ∈ l, I64 x) (hm : m = l.map fun x => -x) (hlow : ∀ x ∈ l, x ≠ -9223372036854775808) :
    ((num_Total.f k l).bind fun bt116 => ((num_Total.f k m).bind fun bt118 => (if bt116.2 = 0 then (if bt116.1 > (-9223372036854775808) then (if bt118.2 = 0 then (some (bt118.1 == (wrap64 (-bt116.1)))) else (some false)) else (if bt118.2 = 0 then (some (bt118.1 == (-9223372036854775808))) else (some true))) else (if bt118.2 = 0 then (some (bt118.1 == (-9223372036854775808))) else (some true))))) = some true := by
  have hwm : ∀ x ∈ m, I64 x := by
    intro x hx
    rw [hm] at hx
    obtain ⟨y, hy, rfl⟩ := List.mem_map.1 hx
    have h1 := hw y hy
    have h2 := hlow y hy
    unfold I64 at *
    omega
  rw [total_is k l (by omega) hw (by omega), total_is k m (by rw [hm]; simp; omega) hwm (by rw [hm]; simp; omega), hm, neg_sum]
  simp only [Option.bind_some]
  by_cases h1 : -9223372036854775808 ≤ l.sum ∧ l.sum ≤ 9223372036854775807
  · have e1 : tot l.sum = (l.sum, 0) := by unfold tot; rw [if_pos h1]
    rw [e1, if_pos rfl]
    by_cases h2 : l.sum > -9223372036854775808
    · have e2 : tot (-l.sum) = (-l.sum, 0) := by unfold tot; rw [if_pos (by omega)]
      rw [if_pos h2, e2, if_pos rfl, wrap_in _ (by omega) (by omega)]
      simp
    · have e2 : tot (-l.sum) = (0, 5) := by unfold tot; rw [if_neg (by omega)]
      rw [if_neg h2, e2, if_neg (by decide)]
  · have e1 : tot l.sum = (0, 5) := by unfold tot; rw [if_neg h1]
    rw [e1, if_neg (by decide)]
    by_cases h2 : -9223372036854775808 ≤ -l.sum ∧ -l.sum ≤ 9223372036854775807
    · have e2 : tot (-l.sum) = (-l.sum, 0) := by unfold tot; rw [if_pos h2]
      rw [e2, if_pos rfl]
      simp
      omega
    · have e2 : tot (-l.sum) = (0, 5) := by unfold tot; rw [if_neg h2]
      rw [e2, if_neg (by decide)]

theorem signs_last (k : Nat) (l : List Int) (hk : 300 < k) (hw : ∀ x ∈ l, I64 x) (i : Nat) (hi : i = min l.length 200) (hlow : ∀ x ∈ l.take i, x ≠ -9223372036854775808) :
    butterylaw01_NumSigns.j1 (k + 1) l ((l.take i).map fun x => -x) (i : Int) false = some true := by
  simp only [butterylaw01_NumSigns.j1]
  rw [if_neg (by simp), mn_nat, if_pos (by omega), if_pos (by omega), Int.toNat_natCast, ← hi]
  exact signs_end k _ _ hk (by rw [List.length_take]; omega) (fun x hx => hw x (List.mem_of_mem_take hx)) rfl hlow

theorem signs_loop (l : List Int) (hw : ∀ x ∈ l, I64 x) (d : Nat) :
    ∀ (k i : Nat), i + d = min l.length 200 → 2 * d + 310 < k → (∀ x ∈ l.take i, x ≠ -9223372036854775808) → butterylaw01_NumSigns.l0 k l ((l.take i).map fun x => -x) (i : Int) = some true := by
  induction d with
  | zero =>
    intro k i hd hk hlow
    obtain ⟨k, rfl⟩ : ∃ m, k = m + 2 := ⟨k - 2, by omega⟩
    have hlast := signs_last k l (by omega) hw i (by omega) hlow
    simp only [butterylaw01_NumSigns.l0]
    by_cases h : i < l.length
    · rw [if_pos (by omega), show (decide ((i : Int) < 200)) = false by simp; omega]
      exact hlast
    · rw [if_neg (by omega)]
      exact hlast
  | succ d ih =>
    intro k i hd hk hlow
    obtain ⟨k, rfl⟩ : ∃ m, k = m + 2 := ⟨k - 2, by omega⟩
    have hlt : i < l.length := by omega
    have hx := i64_at l hw i hlt
    unfold I64 at hx
    simp only [butterylaw01_NumSigns.l0]
    rw [if_pos (by omega), show (decide ((i : Int) < 200)) = true by simp; omega]
    simp only [butterylaw01_NumSigns.j1]
    rw [if_pos trivial, if_pos (by omega), if_pos (by omega), rd_nat l i hlt]
    by_cases hm : l[i] = -9223372036854775808
    · rw [if_pos hm]
    · rw [if_neg hm, if_pos (by simp; omega), wrap_in (-l[i]) (by omega) (by omega), wrap_in ((i : Int) + 1) (by omega) (by omega)]
      have h := ih k (i + 1) (by omega) (by omega) (by
        intro x hx'
        rw [List.take_succ_eq_append_getElem hlt] at hx'
        rcases List.mem_append.1 hx' with h | h
        · exact hlow x h
        · simp at h; subst h; exact hm)
      rw [List.take_succ_eq_append_getElem hlt, List.map_append] at h
      exact h

theorem signs_at (k : Nat) (hk : 900 < k) (l : List Int) (hw : ∀ x ∈ l, I64 x) : butterylaw01_NumSigns.f k l = some true := by
  unfold butterylaw01_NumSigns.f
  rw [awake_is _ (by omega)]
  simp only [Option.bind_some, if_true]
  exact signs_loop l hw (min l.length 200) k 0 (by omega) (by omega) (by simp)

theorem NumSigns : butterylaw01_NumSigns.Pure := fun l _ _ hw => ⟨1000, signs_at 1000 (by omega) l fun x hx => wf64 (hw x hx)⟩

end Go.Proofs.Ytimmgdpicjmjjaa.Pure
