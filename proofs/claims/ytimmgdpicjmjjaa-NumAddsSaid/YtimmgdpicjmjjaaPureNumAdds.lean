/- any two numbers have the reference's sum, or are too great together: num.Add and the reference's Add agree at every pair, in either order. No condition beyond the row's own. -/
import Derived.Test.YtimmgdpicjmjjaaPNumAddsx1
import Derived.Laws.BitsLemmas
namespace Go.Proofs.Ytimmgdpicjmjjaa.Pure
open Go.RowKit Go.Proofs.Ytimmgdpicjmjjaa.PNumAdds Go.Proofs.YtimmgdpicjmjjaaW.PrintWords Go.Proofs.YtimmgdpicjmjjaaW.PrintLast Go.Proofs.YtimmgdpicjmjjaaW.PrintMore

theorem and_mask (x : Int) (_h0 : -9223372036854775808 ≤ x) (_h1 : x ≤ 9223372036854775807) : Go.bits .and .i64 x 4294967295 = x % 4294967296 := by
  have hm : (BitVec.ofInt 64 (4294967295 : Int)).toNat = 2 ^ 32 - 1 := by decide
  have hx : (BitVec.ofInt 64 x).toNat = (x % 18446744073709551616).toNat := by rw [BitVec.toNat_ofInt]; rfl
  show IntKind.i64.wrap ((BitVec.ofInt 64 x &&& BitVec.ofInt 64 4294967295).toNat : Int) = _
  rw [BitVec.toNat_and, hm, hx, Nat.and_two_pow_sub_one_eq_mod, IntKind.wrap_i64]
  have h2 : (2 : Nat) ^ 32 = 4294967296 := by decide
  rw [h2]
  omega

theorem or_join (h y : Int) (h0 : -2147483648 ≤ h) (h1 : h < 2147483648) (y0 : 0 ≤ y) (y1 : y < 4294967296) : Go.bits .or .i64 (h * 4294967296) y = h * 4294967296 + y := by
  have h2 : (2 : Nat) ^ 32 = 4294967296 := by decide
  have h3 : ((2 ^ 64 : Nat) : Int) = 18446744073709551616 := by decide
  have hx : (BitVec.ofInt 64 (h * 4294967296)).toNat = 2 ^ 32 * (h % 4294967296).toNat := by
    rw [BitVec.toNat_ofInt, h2, h3]; omega
  have hy : (BitVec.ofInt 64 y).toNat = y.toNat := by
    rw [BitVec.toNat_ofInt, h3]; omega
  show IntKind.i64.wrap ((BitVec.ofInt 64 (h * 4294967296) ||| BitVec.ofInt 64 y).toNat : Int) = _
  rw [BitVec.toNat_or, hx, hy, ← Nat.two_pow_add_eq_or_of_lt (by rw [h2]; omega), IntKind.wrap_i64, h2]
  omega

/-- A number of int64. -/
def I64 (x : Int) : Prop := -9223372036854775808 ≤ x ∧ x ≤ 9223372036854775807

theorem wf64 {x : Int} (h : (Lit.int .i64 x).wf = true) : I64 x := by
  simp [Lit.wf, IntKind.min, IntKind.max, IntKind.bits, IntKind.signed] at h
  unfold I64
  omega

/-- What the total of a list is: its sum, or too great. -/
def tot (s : Int) : Int × Int := if -9223372036854775808 ≤ s ∧ s ≤ 9223372036854775807 then (s, 0) else (0, 5)

theorem wrap_in (x : Int) (h0 : -9223372036854775808 ≤ x) (h1 : x ≤ 9223372036854775807) : wrap64 x = x := by
  unfold wrap64; omega

theorem rd_nat (l : List Int) (i : Nat) (h : i < l.length) : rd l (i : Int) = l[i] := by
  simp [rd, List.getD, h]

theorem sum_take (l : List Int) (i : Nat) (h : i < l.length) : (l.take (i + 1)).sum = (l.take i).sum + l[i] := by
  rw [List.take_succ_eq_append_getElem h, List.sum_append]; simp

theorem i64_at (l : List Int) (hw : ∀ x ∈ l, I64 x) (i : Nat) (h : i < l.length) : I64 l[i] := hw _ (List.getElem_mem h)

theorem total_loop (l : List Int) (hl : l.length ≤ 1073741824) (hw : ∀ x ∈ l, I64 x) (d : Nat) :
    ∀ (k i : Nat) (hi lo : Int), i + d = l.length → d < k → hi * 4294967296 + lo = (l.take i).sum → -2147483648 * (i : Int) ≤ hi → hi ≤ 2147483648 * (i : Int) → 0 ≤ lo → lo ≤ 4294967295 * (i : Int) →
      num_Total.l0 k hi lo l (l.length : Int) (i : Int) = some (tot l.sum) := by
  induction d with
  | zero =>
    intro k i hi lo hd hk hs h1 h2 h3 h4
    obtain ⟨k, rfl⟩ : ∃ m, k = m + 1 := ⟨k - 1, by omega⟩
    have hi' : i = l.length := by omega
    have hs' : hi * 4294967296 + lo = l.sum := by rw [hs, hi', List.take_length]
    simp only [num_Total.l0]
    rw [if_neg (by omega)]
    rw [wrap_in _ (by omega) (by omega), and_mask lo (by omega) (by omega)]
    unfold tot
    by_cases ha : hi + lo / 4294967296 < -2147483648
    · rw [if_pos ha, if_neg (by omega)]
    · rw [if_neg ha]
      by_cases hb : hi + lo / 4294967296 ≥ 2147483648
      · rw [if_pos hb, if_neg (by omega)]
      · rw [if_neg hb, if_pos (by omega), wrap_in _ (by omega) (by omega), or_join _ _ (by omega) (by omega) (by omega) (by omega)]
        congr 2
        omega
  | succ d ih =>
    intro k i hi lo hd hk hs h1 h2 h3 h4
    obtain ⟨k, rfl⟩ : ∃ m, k = m + 1 := ⟨k - 1, by omega⟩
    have hlt : i < l.length := by omega
    have hx := i64_at l hw i hlt
    unfold I64 at hx
    simp only [num_Total.l0]
    rw [if_pos (by omega), if_pos (by omega), if_pos (by omega), rd_nat l i hlt, and_mask _ hx.1 hx.2]
    rw [wrap_in (hi + _) (by omega) (by omega), wrap_in (lo + _) (by omega) (by omega), wrap_in ((i : Int) + 1) (by omega) (by omega)]
    exact ih k (i + 1) _ _ (by omega) (by omega) (by rw [sum_take l i hlt, ← hs]; omega) (by omega) (by omega) (by omega) (by omega)

theorem total_is (k : Nat) (l : List Int) (hl : l.length ≤ 1073741824) (hw : ∀ x ∈ l, I64 x) (hk : l.length < k) : num_Total.f k l = some (tot l.sum) := by
  unfold num_Total.f
  rw [if_neg (by omega)]
  exact total_loop l hl hw l.length k 0 0 0 (by omega) hk (by simp) (by omega) (by omega) (by omega) (by omega)

theorem add_is (a b : Int) (ha : I64 a) (hb : I64 b) : num_Add.f a b = some (tot (a + b)) := by
  unfold I64 at ha hb
  unfold num_Add.f tot wrap64
  split <;> split <;> (try split) <;> (try split) <;> (try split) <;> (try split) <;> (try split) <;> first | omega | (congr 2; done) | (congr 2; omega)

theorem awake_is (k : Nat) (hk : 3 < k) : butterylaw01_awake.f k = some true := by
  unfold butterylaw01_awake.f
  rw [total_is k _ (by simp) (by simp [I64]) (by simpa using hk), add_is 2 3 (by simp [I64]) (by simp [I64])]
  rfl

theorem sum_perm {l m : List Int} (h : l.Perm m) : l.sum = m.sum := by
  induction h with
  | nil => rfl
  | cons x _ ih => simp [ih]
  | swap x y l => simp only [List.sum_cons]; omega
  | trans _ _ i j => exact i.trans j

theorem mn_nat (n : Nat) : mn (n : Int) 200 = ((min n 200 : Nat) : Int) := by
  unfold mn; omega

theorem ref_add (a b : Int) (ha : I64 a) (hb : I64 b) : butteryref01_Add.f a b = some (tot (a + b)) := by
  unfold I64 at ha hb
  unfold butteryref01_Add.f tot wrap64
  split <;> (try split) <;> (try split) <;> (try split) <;> (try split) <;> (try split) <;> first | omega | (congr 2; done) | (congr 2; omega)

theorem NumAdds : butterylaw01_NumAdds.Pure := by
  intro a b ha hb
  have ha := wf64 ha
  have hb := wf64 hb
  refine ⟨4, ?_⟩
  unfold butterylaw01_NumAdds.f
  rw [awake_is 4 (by omega), add_is a b ha hb, ref_add a b ha hb, add_is b a hb ha]
  simp only [Option.bind_some, if_true, Int.add_comm b a]
  simp

end Go.Proofs.Ytimmgdpicjmjjaa.Pure
