/- Keys and prefixes; texts that begin with others; zones that cover. -/
import Derived.Test.YtjejhkhofmkefaaVPlainI
import Derived.Test.YtjejhkhofmkefaaVF1
namespace Go.E2.S
open Go Go.E2 Go.RowKit Go.Proofs
set_option linter.unusedVariables false
set_option linter.unusedSimpArgs false
set_option maxHeartbeats 1000000
set_option maxRecDepth 10000
/-! ### Plain -/
def okB (x : Int) : Prop := x = 47 ∨ (48 ≤ x ∧ x ≤ 57) ∨ (97 ≤ x ∧ x ≤ 122)
instance (x : Int) : Decidable (okB x) := by unfold okB; infer_instance
def okC (b : UInt8) : Bool := decide (okB b.toNat)
def pfx (s : ByteArray) : Bool := decide (s.size ≤ 16) && (bl s).all okC
def keyB (s : ByteArray) : Bool := decide (¬ s.size = 0) && pfx s
def hasP (s p : ByteArray) : Bool := (bl p).isPrefixOf (bl s)
def coversL (z : List ByteArray) (key : ByteArray) : Bool := z.any (hasP key)
theorem bl_len (s : ByteArray) : (bl s).length = s.size := by simp [bl]
/-- A text's byte. -/
def byteU (s : ByteArray) (i : Nat) : UInt8 := (bl s).getD i 0
theorem byte_q (s : ByteArray) (i : Nat) (h : i < s.size) : s[i]? = some (byteU s i) := by
  have h2 : i < (bl s).length := by simp [bl]; exact h
  unfold byteU
  rw [List.getD_eq_getElem?_getD, List.getElem?_eq_getElem h2, getElem?_pos s i h]
  simp only [bl, Array.getElem_toList, Option.getD_some]
  rfl
theorem byte_get (s : ByteArray) (i : Nat) (h2 : i < (bl s).length) : (bl s)[i] = byteU s i := by
  unfold byteU
  rw [List.getD_eq_getElem?_getD, List.getElem?_eq_getElem h2]
  rfl
theorem bl_extract (s : ByteArray) (n : Nat) : bl (s.extract 0 n) = (bl s).take n := by
  simp [bl, ByteArray.data_extract]
theorem hasP_ext (s p : ByteArray) (h : p.size ≤ s.size) : decide (s.extract 0 p.size = p) = hasP s p := by
  unfold hasP
  rw [Bool.eq_iff_iff, decide_eq_true_iff, List.isPrefixOf_iff_prefix, List.prefix_iff_eq_take, bl_len, ← bl_extract]
  exact ⟨fun e => by rw [e], fun e => (bl_inj e).symm⟩
theorem hasP_long (s p : ByteArray) (h : ¬ p.size ≤ s.size) : hasP s p = false := by
  rw [Bool.eq_false_iff]
  intro hp
  have := (List.isPrefixOf_iff_prefix.1 hp).length_le
  rw [bl_len, bl_len] at this
  exact h this
theorem all_okC (s : ByteArray) (i : Nat) (h : i < s.size) : ((bl s).drop i).all okC = (decide (okB ((byteU s i).toNat : Int)) && ((bl s).drop (i + 1)).all okC) := by
  have h2 : i < (bl s).length := by rw [bl_len]; omega
  rw [List.drop_eq_getElem_cons h2, List.all_cons, byte_get s i h2]
  rfl
theorem regions (x : Int) : (okB x ∧ (x < 97) = True ∧ (122 < x) = False ∧ (x < 48) = True ∧ (57 < x) = False ∧ (x = 47) = True ∧ (48 ≤ x) = False ∧ (x ≤ 57) = True ∧ (97 ≤ x) = False ∧ (x ≤ 122) = True) ∨
    (¬ okB x ∧ (x < 97) = True ∧ (122 < x) = False ∧ (x < 48) = True ∧ (57 < x) = False ∧ (x = 47) = False ∧ (48 ≤ x) = False ∧ (x ≤ 57) = True ∧ (97 ≤ x) = False ∧ (x ≤ 122) = True) ∨
    (okB x ∧ (x < 97) = True ∧ (122 < x) = False ∧ (x < 48) = False ∧ (57 < x) = False ∧ (x = 47) = False ∧ (48 ≤ x) = True ∧ (x ≤ 57) = True ∧ (97 ≤ x) = False ∧ (x ≤ 122) = True) ∨
    (¬ okB x ∧ (x < 97) = True ∧ (122 < x) = False ∧ (x < 48) = False ∧ (57 < x) = True ∧ (x = 47) = False ∧ (48 ≤ x) = True ∧ (x ≤ 57) = False ∧ (97 ≤ x) = False ∧ (x ≤ 122) = True) ∨
    (okB x ∧ (x < 97) = False ∧ (122 < x) = False ∧ (x < 48) = False ∧ (57 < x) = True ∧ (x = 47) = False ∧ (48 ≤ x) = True ∧ (x ≤ 57) = False ∧ (97 ≤ x) = True ∧ (x ≤ 122) = True) ∨
    (¬ okB x ∧ (x < 97) = False ∧ (122 < x) = True ∧ (x < 48) = False ∧ (57 < x) = True ∧ (x = 47) = False ∧ (48 ≤ x) = True ∧ (x ≤ 57) = False ∧ (97 ≤ x) = True ∧ (x ≤ 122) = False) := by
  simp only [eq_iff_iff, iff_true, iff_false]
  unfold okB
  by_cases h1 : x < 47
  · exact .inr (.inl (by omega))
  by_cases h2 : x = 47
  · exact .inl (by omega)
  by_cases h3 : x ≤ 57
  · exact .inr (.inr (.inl (by omega)))
  by_cases h4 : x < 97
  · exact .inr (.inr (.inr (.inl (by omega))))
  by_cases h5 : x ≤ 122
  · exact .inr (.inr (.inr (.inr (.inl (by omega)))))
  · exact .inr (.inr (.inr (.inr (.inr (by omega)))))
theorem zprefix_loop (s : ByteArray) (hs : s.size < 1000000000) (n : Nat) : ∀ i : Nat, s.size = i + n →
    A.lp 101 0 (hd101_0 [sv s, iv s.size, iv i] []) = some (if ((bl s).drop i).all okC = true then (.exit 0, ex101_0 [nov] []) else (.ret, ex101_0 [bv false] [])) := by
  induction n with
  | zero =>
    intro i hi
    rw [lp_run hL Try.func101 rfl (by rfl) 0 rfl]
    obtain rfl : i = s.size := by omega
    rw [List.drop_of_length_le (by rw [bl_len]; omega)]
    simp
  | succ n ih =>
    intro i hi
    have h1 : i < s.size := by omega
    have hq := byte_q s i h1
    have ih := ih (i + 1) (by omega)
    rw [all_okC s i h1]
    rw [lp_run hL Try.func101 rfl (by rfl) 0 rfl]
    generalize hb : ((byteU s i).toNat : Int) = b
    rcases regions b with ⟨q, f1, f2, f3, f4, f5, f6, f7, f8, f9⟩ | ⟨q, f1, f2, f3, f4, f5, f6, f7, f8, f9⟩ | ⟨q, f1, f2, f3, f4, f5, f6, f7, f8, f9⟩ | ⟨q, f1, f2, f3, f4, f5, f6, f7, f8, f9⟩ | ⟨q, f1, f2, f3, f4, f5, f6, f7, f8, f9⟩ | ⟨q, f1, f2, f3, f4, f5, f6, f7, f8, f9⟩
    · simp [h1, hq, hb, q, f1, f2, f3, f4, f5, f6, f7, f8, f9, -List.all_eq_true, -getElem?_pos]
      simp (disch := omega) only [wr]
      exact ih
    · simp [h1, hq, hb, q, f1, f2, f3, f4, f5, f6, f7, f8, f9, -List.all_eq_true, -getElem?_pos]
    · simp [h1, hq, hb, q, f1, f2, f3, f4, f5, f6, f7, f8, f9, -List.all_eq_true, -getElem?_pos]
      simp (disch := omega) only [wr]
      exact ih
    · simp [h1, hq, hb, q, f1, f2, f3, f4, f5, f6, f7, f8, f9, -List.all_eq_true, -getElem?_pos]
    · simp [h1, hq, hb, q, f1, f2, f3, f4, f5, f6, f7, f8, f9, -List.all_eq_true, -getElem?_pos]
      simp (disch := omega) only [wr]
      exact ih
    · simp [h1, hq, hb, q, f1, f2, f3, f4, f5, f6, f7, f8, f9, -List.all_eq_true, -getElem?_pos]
theorem zprefix (s : ByteArray) : A.fn 101 [sv s] [] = some (.one (bv (pfx s)), []) := by
  rw [fn_run hL Try.func101 rfl L101 (by rfl) rfl rfl rfl (by decide)]
  by_cases hl : s.size ≤ 16
  · have := zprefix_loop s (by omega) s.size 0 (by omega)
    have d : ¬ (16 : Int) < s.size := by omega
    cases h : (bl s).all okC
    · simp [Try.f101, hl, h, d, pfx, -List.all_eq_true] at this ⊢
      simp [this]
    · simp [Try.f101, hl, h, d, pfx, -List.all_eq_true] at this ⊢
      simp [this]
  · have d : (16 : Int) < s.size := by omega
    simp [Try.f101, hl, d, pfx]
theorem rprefix_loop (s : ByteArray) (hs : s.size ≤ 9223372036854775807) (n : Nat) : ∀ i : Nat, s.size = i + n →
    A.lp 68 0 (hd68_0 [sv s, iv i] []) = some (if ((bl s).drop i).all okC = true then (.exit 0, ex68_0 [sv s, nov] []) else (.ret, ex68_0 [sv s, bv false] [])) := by
  induction n with
  | zero =>
    intro i hi
    rw [lp_run hL Try.func68 rfl (by rfl) 0 rfl]
    obtain rfl : i = s.size := by omega
    rw [List.drop_of_length_le (by rw [bl_len]; omega)]
    simp
  | succ n ih =>
    intro i hi
    have h1 : i < s.size := by omega
    have hq := byte_q s i h1
    have ih := ih (i + 1) (by omega)
    rw [all_okC s i h1]
    rw [lp_run hL Try.func68 rfl (by rfl) 0 rfl]
    generalize hb : ((byteU s i).toNat : Int) = b
    rcases regions b with ⟨q, f1, f2, f3, f4, f5, f6, f7, f8, f9⟩ | ⟨q, f1, f2, f3, f4, f5, f6, f7, f8, f9⟩ | ⟨q, f1, f2, f3, f4, f5, f6, f7, f8, f9⟩ | ⟨q, f1, f2, f3, f4, f5, f6, f7, f8, f9⟩ | ⟨q, f1, f2, f3, f4, f5, f6, f7, f8, f9⟩ | ⟨q, f1, f2, f3, f4, f5, f6, f7, f8, f9⟩
    · simp [h1, hq, hb, q, f1, f2, f3, f4, f5, f6, f7, f8, f9, -List.all_eq_true, -getElem?_pos]
      simp (disch := omega) only [wr]
      exact ih
    · simp [h1, hq, hb, q, f1, f2, f3, f4, f5, f6, f7, f8, f9, -List.all_eq_true, -getElem?_pos]
    · simp [h1, hq, hb, q, f1, f2, f3, f4, f5, f6, f7, f8, f9, -List.all_eq_true, -getElem?_pos]
      simp (disch := omega) only [wr]
      exact ih
    · simp [h1, hq, hb, q, f1, f2, f3, f4, f5, f6, f7, f8, f9, -List.all_eq_true, -getElem?_pos]
    · simp [h1, hq, hb, q, f1, f2, f3, f4, f5, f6, f7, f8, f9, -List.all_eq_true, -getElem?_pos]
      simp (disch := omega) only [wr]
      exact ih
    · simp [h1, hq, hb, q, f1, f2, f3, f4, f5, f6, f7, f8, f9, -List.all_eq_true, -getElem?_pos]
theorem rprefix (s : ByteArray) (hs : s.size ≤ 9223372036854775807) : A.fn 68 [sv s] [] = some (.one (bv (pfx s)), []) := by
  have := rprefix_loop s hs s.size 0 (by omega)
  rw [fn_run hL Try.func68 rfl L68 (by rfl) rfl rfl rfl (by decide)]
  by_cases hl : s.size ≤ 16
  · have d : (s.size : Int) ≤ 16 := by omega
    cases h : (bl s).all okC
    · simp [Try.f68, hl, h, d, pfx, -List.all_eq_true] at this ⊢
      simp [this]
    · simp [Try.f68, hl, h, d, pfx, -List.all_eq_true] at this ⊢
      simp [this, d]
  · have d : ¬ (s.size : Int) ≤ 16 := by omega
    cases h : (bl s).all okC
    · simp [Try.f68, hl, h, d, pfx, -List.all_eq_true, -Int.not_le] at this ⊢
      simp [this]
    · simp [Try.f68, hl, h, d, pfx, -List.all_eq_true, -Int.not_le] at this ⊢
      simp [this, d, -Int.not_le]
end Go.E2.S
