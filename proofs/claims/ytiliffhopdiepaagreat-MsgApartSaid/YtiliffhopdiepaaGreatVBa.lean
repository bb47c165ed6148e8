/- VBa: VPB, VB1, VB2. -/
import Derived.Test.YtiliffhopdiepaaGreatVPlain
import Derived.Test.YtiliffhopdiepaaGreatSEnv
import Derived.Test.YtiliffhopdiepaaGreatE14
/-! Plain law: numbers as bytes. No program in sight. -/
namespace Go.E2.S
open Go Go.E2 Go.RowKit
set_option linter.unusedVariables false
set_option linter.unusedSimpArgs false
abbrev encU (x : UInt8) : List PV := [.int .u8 (x.toNat : Int)]
abbrev lU (l : List UInt8) : PV := .list 1 (l.map encU)
/-- A number, seven bits a byte: all but its last byte; that one. -/
def iniN : Nat → Nat → List UInt8
  | 0, _ => []
  | f + 1, n => if n < 128 then [] else UInt8.ofNat (n % 128 + 128) :: iniN f (n / 128)
def lasN : Nat → Nat → Nat
  | 0, n => n
  | f + 1, n => if n < 128 then n else lasN f (n / 128)
def numF (f n : Nat) : List UInt8 := iniN f n ++ [UInt8.ofNat (lasN f n)]
def numB (n : Nat) : List UInt8 := numF 7 n
theorem lasN_lt : ∀ (f n : Nat), n < 2 ^ (7 * (f + 1)) → lasN f n < 128
  | 0, n, h => by simpa [lasN] using h
  | f + 1, n, h => by
    rw [lasN]
    split
    · omega
    · refine lasN_lt f (n / 128) ?_
      rw [Nat.div_lt_iff_lt_mul (by omega)]
      rw [show 7 * (f + 1 + 1) = 7 * (f + 1) + 7 by omega, Nat.pow_add] at h
      exact h
theorem iniN_len : ∀ (f n : Nat), (iniN f n).length ≤ f
  | 0, n => by simp [iniN]
  | f + 1, n => by
    rw [iniN]
    split
    · simp
    · have := iniN_len f (n / 128)
      rw [List.length_cons]
      omega
theorem numF_len (f n : Nat) : (numF f n).length ≤ f + 1 := by
  have := iniN_len f n
  unfold numF
  rw [List.length_append, List.length_singleton]
  omega
theorem numF_small (f n : Nat) (h : n < 128) : numF f n = [UInt8.ofNat n] := by
  unfold numF
  cases f with
  | zero => rfl
  | succ f => rw [iniN, lasN, if_pos h, if_pos h]; rfl
theorem numF_great (f n : Nat) (h : ¬ n < 128) : numF (f + 1) n = UInt8.ofNat (n % 128 + 128) :: numF f (n / 128) := by
  unfold numF
  rw [iniN, lasN, if_neg h, if_neg h]
  rfl
theorem numF_pos (f n : Nat) : 0 < (numF f n).length := by
  unfold numF
  rw [List.length_append, List.length_singleton]
  omega
/-- A number read: so far so many bytes, so much; what it is, what stands behind it, an error's number. -/
def numR : Nat → Nat → List UInt8 → Nat × List UInt8 × Int
  | _, _, [] => (0, [], 3)
  | i, acc, x :: l => if (128 ≤ x.toNat ∧ i = 7) ∨ (x.toNat = 0 ∧ 0 < i) then (0, [], 2) else if x.toNat < 128 then (acc + x.toNat * 2 ^ (7 * i), l, 0) else numR (i + 1) (acc + (x.toNat % 128) * 2 ^ (7 * i)) l
def getN (l : List UInt8) : Nat × List UInt8 × Int := numR 0 0 l
theorem ofNat_toNat {n : Nat} (h : n < 256) : (UInt8.ofNat n).toNat = n := by
  rw [UInt8.toNat_ofNat']
  exact Nat.mod_eq_of_lt h
theorem numR_put : ∀ (f i acc n : Nat) (rest : List UInt8), i + f = 7 → n < 2 ^ (7 * (f + 1)) → (0 < i → 0 < n) → numR i acc (numF f n ++ rest) = (acc + n * 2 ^ (7 * i), rest, 0)
  | f, i, acc, n, rest, hi, hn, hp => by
    by_cases h : n < 128
    · rw [numF_small f n h]
      show numR i acc (UInt8.ofNat n :: rest) = _
      have e := ofNat_toNat (show n < 256 by omega)
      rw [numR, e, if_neg (by omega), if_pos h]
    · cases f with
      | zero => exact absurd (by simpa using hn) h
      | succ f =>
        rw [numF_great f n h]
        show numR i acc (UInt8.ofNat (n % 128 + 128) :: (numF f (n / 128) ++ rest)) = _
        have e := ofNat_toNat (show n % 128 + 128 < 256 by omega)
        have hd : n / 128 < 2 ^ (7 * (f + 1)) := by
          rw [Nat.div_lt_iff_lt_mul (by omega)]
          rw [show 7 * (f + 1 + 1) = 7 * (f + 1) + 7 by omega, Nat.pow_add] at hn
          exact hn
        rw [numR, e, if_neg (by omega), if_neg (by omega), numR_put f (i + 1) _ (n / 128) rest (by omega) hd (by omega)]
        have e2 : (n % 128 + 128) % 128 = n % 128 := by omega
        have e3 : 2 ^ (7 * (i + 1)) = 128 * 2 ^ (7 * i) := by rw [show 7 * (i + 1) = 7 + 7 * i by omega, Nat.pow_add]
        rw [e2, e3]
        have e4 : n = n % 128 + n / 128 * 128 := by omega
        have e5 : n * 2 ^ (7 * i) = (n % 128) * 2 ^ (7 * i) + n / 128 * 128 * 2 ^ (7 * i) := by
          rw [← Nat.add_mul, ← e4]
        rw [e5, Nat.mul_assoc (n / 128) 128, Nat.add_assoc]
theorem getN_put (n : Nat) (rest : List UInt8) (h : n < 72057594037927936) : getN (numB n ++ rest) = (n, rest, 0) := by
  have := numR_put 7 0 0 n rest (by omega) h (by omega)
  rw [Nat.zero_add, Nat.mul_zero, Nat.pow_zero, Nat.mul_one] at this
  exact this
/-- What is read is a number's bytes, and what stands behind them. -/
theorem numR_back : ∀ (l : List UInt8) (f i acc : Nat) {n : Nat} {rest : List UInt8}, i + f = 7 → numR i acc l = (n, rest, 0) →
    ∃ m, n = acc + m * 2 ^ (7 * i) ∧ m < 2 ^ (7 * (f + 1)) ∧ l = numF f m ++ rest ∧ (0 < i → 0 < m)
  | [], f, i, acc, n, rest, hi, h => by simp [numR] at h
  | x :: l, f, i, acc, n, rest, hi, h => by
    have hx := x.toNat_lt
    rw [numR] at h
    split at h
    · simp at h
    · rename_i hc
      split at h
      · rename_i hs
        simp only [Prod.mk.injEq, and_true] at h
        obtain ⟨h1, h2⟩ := h
        have hpw : 2 ^ 7 ≤ 2 ^ (7 * (f + 1)) := Nat.pow_le_pow_right (by omega) (by omega)
        refine ⟨x.toNat, h1.symm, by omega, ?_, by omega⟩
        rw [numF_small f _ hs, ← h2, UInt8.ofNat_toNat]
        rfl
      · rename_i hs
        obtain ⟨f, rfl⟩ : ∃ g, f = g + 1 := ⟨f - 1, by omega⟩
        obtain ⟨m, h1, h2, h3, h4⟩ := numR_back l f (i + 1) _ (by omega) h
        have hm := h4 (by omega)
        refine ⟨x.toNat % 128 + m * 128, ?_, ?_, ?_, by omega⟩
        · have e3 : 2 ^ (7 * (i + 1)) = 128 * 2 ^ (7 * i) := by rw [show 7 * (i + 1) = 7 + 7 * i by omega, Nat.pow_add]
          rw [h1, e3, Nat.add_mul, Nat.mul_assoc m 128, Nat.add_assoc]
        · rw [show 7 * (f + 1 + 1) = 7 * (f + 1) + 7 by omega, Nat.pow_add]
          have : m + 1 ≤ 2 ^ (7 * (f + 1)) := h2
          have := Nat.mul_le_mul_right (2 ^ 7) this
          omega
        · rw [numF_great f _ (by omega), show (x.toNat % 128 + m * 128) / 128 = m by omega, show (x.toNat % 128 + m * 128) % 128 + 128 = x.toNat by omega, UInt8.ofNat_toNat, h3]
          rfl
theorem getN_back {l rest : List UInt8} {n : Nat} (h : getN l = (n, rest, 0)) : n < 72057594037927936 ∧ l = numB n ++ rest := by
  obtain ⟨m, h1, h2, h3, _⟩ := numR_back l 7 0 0 (by omega) h
  rw [Nat.zero_add, Nat.mul_zero, Nat.pow_zero, Nat.mul_one] at h1
  subst h1
  exact ⟨h2, h3⟩
theorem numR_err : ∀ (l : List UInt8) (i acc : Nat), (numR i acc l).2.2 = 0 ∨ ((numR i acc l).1 = 0 ∧ (numR i acc l).2.1 = [] ∧ ((numR i acc l).2.2 = 2 ∨ (numR i acc l).2.2 = 3))
  | [], i, acc => by simp [numR]
  | x :: l, i, acc => by
    rw [numR]
    split
    · exact .inr ⟨rfl, rfl, .inl rfl⟩
    · split
      · exact .inl rfl
      · exact numR_err l _ _
theorem numR_len : ∀ (l : List UInt8) (i acc : Nat), (numR i acc l).2.1.length ≤ l.length
  | [], i, acc => by simp [numR]
  | x :: l, i, acc => by
    rw [numR]
    split
    · simp
    · split
      · simp
      · have := numR_len l (i + 1) (acc + (x.toNat % 128) * 2 ^ (7 * i))
        rw [List.length_cons]
        omega
/-! ### Whole numbers: eight bytes -/
def intB (n : Int) : List UInt8 := (List.range 8).map fun i => UInt8.ofNat ((n % 18446744073709551616).toNat / 2 ^ (8 * i) % 256)
/-! ### Bits -/
theorem or128 (n : Nat) : orI .u8 (IntKind.u8.wrap (n : Int)) 128 = ((UInt8.ofNat (n % 128 + 128)).toNat : Int) := by
  have h : ∀ x : _root_.Fin 256, orI .u8 (x.val : Int) 128 = ((x.val % 128 + 128 : Nat) : Int) := by decide +kernel
  have e : IntKind.u8.wrap (n : Int) = ((n % 256 : Nat) : Int) := by simp [IntKind.wrap, IntKind.bits, IntKind.signed]
  have := h ⟨n % 256, by omega⟩
  simp only at this
  rw [e, this, ofNat_toNat (by omega), show n % 256 % 128 = n % 128 by omega]
theorem and127 (x : UInt8) : andI .u8 (x.toNat : Int) 127 = ((x.toNat % 128 : Nat) : Int) := by
  have h : ∀ y : _root_.Fin 256, andI .u8 (y.val : Int) 127 = ((y.val % 128 : Nat) : Int) := by decide +kernel
  exact h ⟨x.toNat, x.toNat_lt⟩
theorem orI_add (a y k : Nat) (ha : a < 2 ^ k) (hb : a + y * 2 ^ k < 9223372036854775808) : orI .i64 (a : Int) ((y * 2 ^ k : Nat) : Int) = ((a + y * 2 ^ k : Nat) : Int) := by
  have h64 : (2 : Nat) ^ 64 = 18446744073709551616 := by decide
  have hx : (BitVec.ofInt 64 (a : Int)).toNat = a := by rw [BitVec.toNat_ofInt]; omega
  have hy : (BitVec.ofInt 64 ((y * 2 ^ k : Nat) : Int)).toNat = y * 2 ^ k := by rw [BitVec.toNat_ofInt]; omega
  show IntKind.i64.wrap ((BitVec.ofInt 64 (a : Int) ||| BitVec.ofInt 64 ((y * 2 ^ k : Nat) : Int)).toNat : Int) = _
  rw [BitVec.toNat_or, hx, hy, Nat.or_comm, Nat.mul_comm, ← Nat.two_pow_add_eq_or_of_lt ha, IntKind.wrap_i64]
  rw [Nat.mul_comm] at hb
  omega
end Go.E2.S
/-! Numbers as bytes: bin.PutNum, bin.Num. -/
namespace Go.E2.S
open Go Go.E2 Go.RowKit Go.Proofs
set_option linter.unusedVariables false
set_option linter.unusedSimpArgs false
set_option maxHeartbeats 4000000
set_option maxRecDepth 10000
abbrev rU (l : List UInt8) : AObj := .row true 1 (l.map encU)
theorem cloneU (l : List UInt8) (hl : l.length < 1000000000000) : A.fn 136 [pv (lU l)] [] = some (.one (.at (.row pinN 0)), [some (rU l)]) :=
  (lib_run hL L136 [pv (lU l)] []).trans (clone_at A.fn (xs := l.map encU) (by simp [appLim]; omega))
theorem u8_byte (n : Nat) (h : n < 128) : IntKind.u8.wrap (n : Int) = ((UInt8.ofNat n).toNat : Int) := by
  rw [ofNat_toNat (by omega)]
  simp [IntKind.wrap, IntKind.bits, IntKind.signed]
  omega
theorem putn_loop (f : Nat) : ∀ (n : Nat) (out : List UInt8), n < 2 ^ (7 * (f + 1)) → out.length + f < 10000000000 →
    A.lp 108 0 (hd108_0 [iv n, .at (.row 2000 0)] [(2000, 0, some (rU out))]) = some (.exit 0, ex108_0 [iv (lasN f n), .at (.row 2000 0)] [(2000, 0, some (rU (out ++ iniN f n)))]) := by
  induction f with
  | zero =>
    intro n out hn ho
    have hn : n < 128 := by simpa using hn
    have h : ¬ (128 : Int) ≤ n := by omega
    rw [lp_run hL Tryz.func108 rfl (by rfl) 0 rfl]
    simp [h, iniN, lasN]
  | succ f ih =>
    intro n out hn ho
    rw [iniN, lasN]
    by_cases c : n < 128
    · have h : ¬ (128 : Int) ≤ n := by omega
      rw [if_pos c, if_pos c]
      rw [lp_run hL Tryz.func108 rfl (by rfl) 0 rfl]
      simp [h]
    · have h : (128 : Int) ≤ n := by omega
      rw [if_neg c, if_neg c]
      have hd : n / 128 < 2 ^ (7 * (f + 1)) := by
        rw [Nat.div_lt_iff_lt_mul (by omega)]
        rw [show 7 * (f + 1 + 1) = 7 * (f + 1) + 7 by omega, Nat.pow_add] at hn
        exact hn
      have ih := ih (n / 128) (out ++ [UInt8.ofNat (n % 128 + 128)]) hd (by rw [List.length_append, List.length_singleton]; omega)
      rw [List.append_assoc] at ih
      have hlim : (out.length + 1) * 2 ≤ 70368744177664 := by omega
      have e1 := or128 n
      have e2 : (n : Int).fdiv 128 = ((n / 128 : Nat) : Int) := by rw [Int.fdiv_eq_ediv_of_nonneg _ (by omega)]; omega
      generalize UInt8.ofNat (n % 128 + 128) = x at *
      rw [lp_run hL Tryz.func108 rfl (by rfl) 0 rfl]
      simp [rU] at ih
      simp [rU, h, hlim, e1, e2]
      exact ih
def badN (n : Int) : Bool := decide (n < 0) || decide (72057594037927935 < n)
def putL (b : List UInt8) (n : Int) : List UInt8 := if badN n = true then [] else b ++ numB n.toNat
def putE (n : Int) : Int := if badN n = true then 1 else 0
theorem putNum (b : List UInt8) (n : Int) (hb : b.length < 1000000000) : A.fn 108 [pv (lU b), iv n] [] = some (.tup [.at (.row pinN 0), iv (putE n)], [some (rU (putL b n))]) := by
  unfold putL putE badN
  by_cases h1 : n < 0
  · rw [fn_run hL Tryz.func108 rfl L108 (by rfl) rfl rfl rfl (by decide)]
    simp [Tryz.f108, h1]
  · by_cases h2 : 72057594037927935 < n
    · rw [fn_run hL Tryz.func108 rfl L108 (by rfl) rfl rfl rfl (by decide)]
      simp [Tryz.f108, h1, h2, -Int.not_lt]
    · obtain ⟨m, rfl⟩ : ∃ m : Nat, n = m := ⟨n.toNat, by omega⟩
      have q1 := cloneU b (by omega)
      have hm : m < 2 ^ (7 * (7 + 1)) := by show m < 72057594037927936; omega
      have q2 := putn_loop 7 m b hm (by omega)
      have hl := lasN_lt 7 m hm
      have hi := iniN_len 7 m
      have e := u8_byte (lasN 7 m) hl
      have hlim : (b.length + (iniN 7 m).length + 1) * 2 ≤ 70368744177664 := by omega
      rw [Int.toNat_natCast]
      unfold numB numF
      generalize lasN 7 m = la at *
      generalize iniN 7 m = ini at *
      rw [fn_run hL Tryz.func108 rfl L108 (by rfl) rfl rfl rfl (by decide)]
      simp [rU] at q1 q2
      simp [Tryz.f108, h1, h2, q1, q2, e, hlim, rU, -Int.not_lt]
theorem num_loop (l : List UInt8) (hl : l.length < 1000000000) (n : Nat) : ∀ (i acc : Nat), l.length = i + n → i ≤ 7 → acc < 2 ^ (7 * i) →
    ∃ r, A.lp 102 0 (hd102_0 [pv (lU l), iv acc, pv (lU l), iv l.length, iv i] []) = some r ∧
      (((numR i acc (l.drop i)).2.2 = 3 ∧ r = (.exit 0, ex102_0 [nov, nov, nov] [])) ∨ ((numR i acc (l.drop i)).2.2 = 2 ∧ r = (.ret, ex102_0 [iv 0, .at .nil, iv 2] [])) ∨
       ((numR i acc (l.drop i)).2.2 = 0 ∧ r = (.ret, ex102_0 [iv (numR i acc (l.drop i)).1, .at (.row 2000 0), iv 0] [(2000, 0, some (rU (numR i acc (l.drop i)).2.1))]))) := by
  induction n with
  | zero =>
    intro i acc hi h7 ha
    refine ⟨_, ?_, .inl ⟨by rw [List.drop_of_length_le (by omega)]; rfl, rfl⟩⟩
    rw [lp_run hL Tryz.func102 rfl (by rfl) 0 rfl]
    obtain rfl : i = l.length := by omega
    simp
  | succ n ih =>
    intro i acc hi h7 ha
    have h1 : i < l.length := by omega
    rw [List.drop_eq_getElem_cons h1]
    have ea := and127 l[i]
    have hx := l[i].toNat_lt
    have q := cloneU (l.drop (i + 1)) (by rw [List.length_drop]; omega)
    have w1 : IntKind.i64.wrap ((l[i].toNat % 128 : Nat) : Int) = ((l[i].toNat % 128 : Nat) : Int) := wr _ (by omega) (by omega)
    have w2 : IntKind.i64.wrap (7 * (i : Int)) = 7 * (i : Int) := wr _ (by omega) (by omega)
    have w3 : IntKind.u64.wrap (7 * (i : Int)) = 7 * (i : Int) := by simp [IntKind.wrap, IntKind.bits, IntKind.signed]; omega
    have w4 : (7 * (i : Int)).toNat = 7 * i := by omega
    have w5 : min (7 * i) 64 = 7 * i := by omega
    have hp : 2 ^ (7 * i) ≤ 2 ^ 49 := Nat.pow_le_pow_right (by omega) (by omega)
    have hb : l[i].toNat % 128 * 2 ^ (7 * i) ≤ 127 * 2 ^ 49 := Nat.mul_le_mul (by omega) hp
    have hb2 : acc + l[i].toNat % 128 * 2 ^ (7 * i) < 9223372036854775808 := by
      have : (2 : Nat) ^ 49 = 562949953421312 := by decide
      omega
    have w6 : IntKind.i64.wrap (((l[i].toNat % 128 : Nat) : Int) * 2 ^ (7 * i)) = ((l[i].toNat % 128 * 2 ^ (7 * i) : Nat) : Int) := by
      rw [wr _ (by
        have : (0 : Int) ≤ ((l[i].toNat % 128 * 2 ^ (7 * i) : Nat) : Int) := Int.natCast_nonneg _
        rw [Int.natCast_mul, Int.natCast_pow] at this
        simp at this ⊢
        omega) (by
        have : ((l[i].toNat % 128 * 2 ^ (7 * i) : Nat) : Int) < 9223372036854775808 := by omega
        rw [Int.natCast_mul, Int.natCast_pow] at this
        simpa using this)]
      rw [Int.natCast_mul, Int.natCast_pow]
      rfl
    have w7 := orI_add acc (l[i].toNat % 128) (7 * i) ha hb2
    have w8 : IntKind.i64.wrap ((i : Int) + 1) = i + 1 := wr _ (by omega) (by omega)
    have ih := ih (i + 1) (acc + l[i].toNat % 128 * 2 ^ (7 * i)) (by omega)
    rw [numR]
    generalize hxx : l[i].toNat = x at *
    push_cast at ea w1 w6 w7
    have w0 : ¬ 7 * (i : Int) < 0 := by omega
    have h1' : (i : Int) < l.length := by omega
    by_cases a1 : 128 ≤ x
    · have b1 : (128 : Int) ≤ x := by omega
      have b2 : ¬ (x : Int) = 0 := by omega
      have n2 : ¬ x = 0 := by omega
      have b3 : ¬ (x : Int) < 128 := by omega
      by_cases a2 : i = 7
      · rw [if_pos (.inl ⟨a1, a2⟩)]
        refine ⟨_, ?_, .inr (.inl ⟨rfl, rfl⟩)⟩
        have b4 := eq_true (show (i : Int) = 7 by omega)
        rw [lp_run hL Tryz.func102 rfl (by rfl) 0 rfl]
        simp [h1, h1', hxx, ea, w0, w1, w2, w3, w4, w5, w6, w7, b1, b4]
      · rw [if_neg (by omega), if_neg (by omega)]
        have hp2 : 2 ^ (7 * (i + 1)) = 128 * 2 ^ (7 * i) := by rw [show 7 * (i + 1) = 7 + 7 * i by omega, Nat.pow_add]
        have hb3 : x % 128 * 2 ^ (7 * i) ≤ 127 * 2 ^ (7 * i) := Nat.mul_le_mul_right _ (by omega)
        obtain ⟨r, r1, r2⟩ := ih (by omega) (by rw [hp2]; omega)
        refine ⟨r, ?_, r2⟩
        have b4 : ¬ (i : Int) = 7 := by omega
        rw [lp_run hL Tryz.func102 rfl (by rfl) 0 rfl]
        simp at r1
        simp [h1, h1', hxx, ea, w0, w1, w2, w3, w4, w5, w6, w7, w8, b1, b2, n2, b3, b4]
        exact r1
    · have b1 : ¬ (128 : Int) ≤ x := by omega
      have b3 : (x : Int) < 128 := by omega
      have hm : x % 128 = x := by omega
      have hm' : (x : Int) % 128 = x := by omega
      have c1 : (0 : Int) ≤ (i : Int) + 1 := by omega
      have c2 : (i : Int) + 1 ≤ l.length := by omega
      have tk : List.take (l.length - (i + 1)) (List.drop (i + 1) (List.map encU l)) = (l.drop (i + 1)).map encU := by rw [← List.map_drop, List.take_of_length_le (by simp)]
      by_cases a2 : x = 0 ∧ 0 < i
      · rw [if_pos (.inr a2)]
        refine ⟨_, ?_, .inr (.inl ⟨rfl, rfl⟩)⟩
        obtain ⟨a3, a4⟩ := a2
        have b2 := eq_true (show (x : Int) = 0 by omega)
        have n2 := eq_true (show x = 0 by omega)
        have b4 : (0 : Int) < i := by omega
        rw [lp_run hL Tryz.func102 rfl (by rfl) 0 rfl]
        simp [h1, h1', hxx, ea, w0, w1, w2, w3, w4, w5, w6, w7, b1, b2, n2, b4, a4, -Int.not_le]
      · rw [if_neg (by omega), if_pos (by omega)]
        refine ⟨_, ?_, .inr (.inr ⟨rfl, rfl⟩)⟩
        by_cases a3 : x = 0
        · have b2 := eq_true (show (x : Int) = 0 by omega)
          have n2 := eq_true (show x = 0 by omega)
          have b4 : ¬ (0 : Int) < i := by omega
          have n4 : ¬ 0 < i := by omega
          rw [lp_run hL Tryz.func102 rfl (by rfl) 0 rfl]
          simp only [rU, lU, List.map_drop] at q
          simp only [hm'] at w1 w6 w7 ea
          simp [h1, h1', hxx, ea, w0, w1, w2, w3, w4, w5, w6, w7, w8, b1, b2, n2, b3, b4, n4, rU, q, hm, hm', c1, c2, tk, -Int.not_le, -Int.not_lt]
        · have b2 : ¬ (x : Int) = 0 := by omega
          have n2 : ¬ x = 0 := by omega
          rw [lp_run hL Tryz.func102 rfl (by rfl) 0 rfl]
          simp only [rU, lU, List.map_drop] at q
          simp only [hm'] at w1 w6 w7 ea
          simp [h1, h1', hxx, ea, w0, w1, w2, w3, w4, w5, w6, w7, w8, b1, b2, n2, b3, rU, q, hm, hm', c1, c2, tk, -Int.not_le, -Int.not_lt]
def numE (l : List UInt8) : Int := (getN l).2.2
theorem numC (l : List UInt8) (hl : l.length < 1000000000) : A.fn 102 [pv (lU l)] [] = some (.tup [iv ((getN l).1 : Nat), pv (lU (getN l).2.1), iv (getN l).2.2], []) := by
  obtain ⟨r, h1, h2⟩ := num_loop l hl l.length 0 0 (by omega) (by omega) (by omega)
  rw [List.drop_zero] at h2
  have he := numR_err l 0 0
  unfold getN
  rcases h2 with ⟨e, rfl⟩ | ⟨e, rfl⟩ | ⟨e, rfl⟩
  · rcases he with he | ⟨e1, e2, _⟩
    · omega
    rw [e1, e2, e]
    rw [fn_run hL Tryz.func102 rfl L102 (by rfl) rfl rfl rfl (by decide)]
    simp at h1
    simp [Tryz.f102, h1]
  · rcases he with he | ⟨e1, e2, _⟩
    · omega
    rw [e1, e2, e]
    rw [fn_run hL Tryz.func102 rfl L102 (by rfl) rfl rfl rfl (by decide)]
    simp at h1
    simp [Tryz.f102, h1]
  · rw [e]
    generalize numR 0 0 l = q at *
    rw [fn_run hL Tryz.func102 rfl L102 (by rfl) rfl rfl rfl (by decide)]
    simp [rU] at h1
    simp [Tryz.f102, h1]
end Go.E2.S
/-! Texts and whole numbers as bytes: bin.PutText, Text, PutInt, Int. -/
namespace Go.E2.S
open Go Go.E2 Go.RowKit Go.Proofs
set_option linter.unusedVariables false
set_option linter.unusedSimpArgs false
set_option maxHeartbeats 4000000
set_option maxRecDepth 10000
/-! ### Texts -/
theorem bytesPV_eq (s : ByteArray) : bytesPV s = (bl s).map encU := rfl
theorem bytesOf_enc : ∀ l : List UInt8, bytesOf (l.map encU) = some l
  | [] => rfl
  | x :: l => by
    show (bytesOf (l.map encU)).map (UInt8.ofNat ((x.toNat : Int).toNat) :: ·) = _
    rw [bytesOf_enc l, Int.toNat_natCast, UInt8.ofNat_toNat]
    rfl
def putT (b : List UInt8) (s : ByteArray) : List UInt8 := if 65536 < s.size then [] else b ++ numB s.size ++ bl s
theorem putText (b : List UInt8) (s : ByteArray) (hb : b.length < 100000000) : A.fn 135 [pv (lU b), sv s] [] = some (.tup [.at (.row pinN 0), iv (if 65536 < s.size then 4 else 0)], [some (rU (putT b s))]) := by
  unfold putT
  by_cases h : 65536 < s.size
  · have h' : (65536 : Int) < s.size := by omega
    rw [if_pos h, if_pos h]
    rw [fn_run hL Tryz.func135 rfl L135 (by rfl) rfl rfl rfl (by decide)]
    simp [Tryz.f135, h']
  · have h' : ¬ (65536 : Int) < s.size := by omega
    rw [if_neg h, if_neg h]
    have hn : badN (s.size : Int) = false := by simp [badN]; omega
    have q := putNum b s.size (by omega)
    unfold putL putE at q
    rw [hn, Int.toNat_natCast] at q
    have hl := numF_len 7 s.size
    have hb2 : (bl s).length = s.size := by simp [bl]
    have hlim : (b.length + (numB s.size).length + (bl s).length) * 2 ≤ 70368744177664 := by unfold numB; omega
    have e := bytesPV_eq s
    generalize numB s.size = nb at *
    rw [fn_run hL Tryz.func135 rfl L135 (by rfl) rfl rfl rfl (by decide)]
    simp [rU] at q
    simp [Tryz.f135, h', q, hlim, e, rU, -Int.not_lt]
def mkS' (l : List UInt8) : ByteArray := ⟨l.toArray⟩
/-- A text read: it, what stands behind it, an error's number. -/
def getT (l : List UInt8) : ByteArray × List UInt8 × Int :=
  if ¬ (getN l).2.2 = 0 then (⟨#[]⟩, [], (getN l).2.2)
  else if 65536 < (getN l).1 then (⟨#[]⟩, [], 4)
  else if (getN l).2.1.length < (getN l).1 then (⟨#[]⟩, [], 3)
  else (mkS' ((getN l).2.1.take (getN l).1), (getN l).2.1.drop (getN l).1, 0)
theorem textC (l : List UInt8) (hl : l.length < 1000000000) : A.fn 212 [pv (lU l)] [] = some (.tup [sv (getT l).1, pv (lU (getT l).2.1), iv (getT l).2.2], []) := by
  have q := numC l hl
  have hr := numR_len l 0 0
  unfold getT
  have hlr : (getN l).2.1.length ≤ l.length := hr
  generalize getN l = g at *
  obtain ⟨n, rest, e⟩ := g
  simp only at q hlr ⊢
  by_cases h0 : e = 0
  · subst h0
    rw [if_neg (by simp)]
    by_cases h1 : 65536 < n
    · rw [if_pos h1]
      have h1' : (65536 : Int) < n := by omega
      rw [fn_run hL Tryz.func212 rfl L212 (by rfl) rfl rfl rfl (by decide)]
      simp [Tryz.f212, q, h1']
    · rw [if_neg h1]
      have h1' : ¬ (65536 : Int) < n := by omega
      by_cases h2 : rest.length < n
      · rw [if_pos h2]
        have h2' : (rest.length : Int) < n := by omega
        rw [fn_run hL Tryz.func212 rfl L212 (by rfl) rfl rfl rfl (by decide)]
        simp [Tryz.f212, q, h1', h2', -Int.not_lt]
      · rw [if_neg h2]
        have h2' : ¬ (rest.length : Int) < n := by omega
        have h3 : (n : Int) ≤ rest.length := by omega
        have h3n : n ≤ rest.length := by omega
        have e1 := bytesOf_enc (rest.take n)
        rw [List.map_take] at e1
        have e2 : List.take (rest.length - n) (List.drop n (List.map encU rest)) = List.drop n (List.map encU rest) := List.take_of_length_le (by simp)
        rw [fn_run hL Tryz.func212 rfl L212 (by rfl) rfl rfl rfl (by decide)]
        simp [Tryz.f212, q, h1', h2', h3, h3n, e1, e2, mkS', -Int.not_lt]
  · rw [if_pos h0]
    rw [fn_run hL Tryz.func212 rfl L212 (by rfl) rfl rfl rfl (by decide)]
    simp [Tryz.f212, q, h0]
/-! ### Whole numbers -/
def intAt (n : Int) (i : Nat) : UInt8 := UInt8.ofNat ((n % 18446744073709551616).toNat / 2 ^ (8 * i) % 256)
def intL (n : Int) : List UInt8 := (List.range 8).map (intAt n)
theorem intAt_val (n : Int) (i : Nat) : IntKind.u8.wrap ((IntKind.u64.wrap n).fdiv (2 ^ (8 * i))) = ((intAt n i).toNat : Int) := by
  unfold intAt
  rw [ofNat_toNat (by omega)]
  have e : IntKind.u64.wrap n = ((n % 18446744073709551616).toNat : Int) := by
    simp [IntKind.wrap, IntKind.bits, IntKind.signed]
    omega
  rw [e, Int.fdiv_eq_ediv_of_nonneg _ (Int.le_of_lt (Int.pow_pos (by decide)))]
  generalize (n % 18446744073709551616).toNat = m
  have e2 : (m : Int) / 2 ^ (8 * i) = ((m / 2 ^ (8 * i) : Nat) : Int) := by rw [Int.natCast_ediv, Int.natCast_pow]; rfl
  rw [e2]
  generalize m / 2 ^ (8 * i) = q
  simp [IntKind.wrap, IntKind.bits, IntKind.signed]
theorem puti_loop (n : Int) (k : Nat) : ∀ (i : Nat) (out : List UInt8), 8 = i + k → out.length + k < 10000000000 →
    A.lp 59 0 (hd59_0 [iv n, .at (.row 2000 0), iv i] [(2000, 0, some (rU out))]) = some (.exit 0, ex59_0 [.at (.row 2000 0)] [(2000, 0, some (rU (out ++ ((List.range 8).drop i).map (intAt n))))]) := by
  induction k with
  | zero =>
    intro i out hi ho
    obtain rfl : i = 8 := by omega
    rw [lp_run hL Tryz.func59 rfl (by rfl) 0 rfl]
    simp
  | succ k ih =>
    intro i out hi ho
    have h8 : i < 8 := by omega
    have h8' : (i : Int) < 8 := by omega
    have w1 : IntKind.i64.wrap (8 * (i : Int)) = 8 * (i : Int) := wr _ (by omega) (by omega)
    have w2 : IntKind.u64.wrap (8 * (i : Int)) = 8 * (i : Int) := by simp [IntKind.wrap, IntKind.bits, IntKind.signed]; omega
    have w0 : ¬ 8 * (i : Int) < 0 := by omega
    have w3 : (8 * (i : Int)).toNat = 8 * i := by omega
    have w4 : min (8 * i) 64 = 8 * i := by omega
    have w5 := intAt_val n i
    have w6 : IntKind.i64.wrap ((i : Int) + 1) = i + 1 := wr _ (by omega) (by omega)
    have hlim : (out.length + 1) * 2 ≤ 70368744177664 := by omega
    have dr : (List.range 8).drop i = i :: (List.range 8).drop (i + 1) := by
      rw [List.drop_eq_getElem_cons (by simp; omega)]
      simp
    have ih := ih (i + 1) (out ++ [intAt n i]) (by omega) (by rw [List.length_append, List.length_singleton]; omega)
    rw [dr, List.map_cons, List.append_cons]
    generalize intAt n i = x at *
    generalize ((List.range 8).drop (i + 1)).map (intAt n) = rest at *
    rw [lp_run hL Tryz.func59 rfl (by rfl) 0 rfl]
    simp [rU] at ih
    simp [rU, h8', w0, w1, w2, w3, w4, w5, w6, hlim]
    exact ih
theorem putInt (b : List UInt8) (n : Int) (hb : b.length < 1000000000) : A.fn 59 [pv (lU b), iv n] [] = some (.one (.at (.row pinN 0)), [some (rU (b ++ intL n))]) := by
  have q1 := cloneU b (by omega)
  have q2 := puti_loop n 8 0 b (by omega) (by omega)
  rw [List.drop_zero] at q2
  unfold intL
  generalize (List.range 8).map (intAt n) = l at *
  rw [fn_run hL Tryz.func59 rfl L59 (by rfl) rfl rfl rfl (by decide)]
  simp [rU] at q1 q2
  simp [Tryz.f59, q1, q2, rU]
/-- What so many bytes come to. -/
def valB : Nat → List UInt8 → Nat
  | _, [] => 0
  | i, x :: l => x.toNat * 2 ^ (8 * i) + valB (i + 1) l
theorem valB_lt : ∀ (l : List UInt8) (i : Nat), valB i l + 2 ^ (8 * i) ≤ 2 ^ (8 * (i + l.length))
  | [], i => by simp [valB]
  | x :: l, i => by
    have h := valB_lt l (i + 1)
    have hx := x.toNat_lt
    rw [valB, List.length_cons, show i + (l.length + 1) = i + 1 + l.length by omega]
    have e : 2 ^ (8 * (i + 1)) = 256 * 2 ^ (8 * i) := by rw [show 8 * (i + 1) = 8 + 8 * i by omega, Nat.pow_add]
    rw [e] at h
    have : x.toNat * 2 ^ (8 * i) ≤ 255 * 2 ^ (8 * i) := Nat.mul_le_mul_right _ (by omega)
    omega
theorem valB_append : ∀ (l : List UInt8) (i : Nat) (x : UInt8), valB i (l ++ [x]) = valB i l + x.toNat * 2 ^ (8 * (i + l.length))
  | [], i, x => by simp [valB]
  | y :: l, i, x => by
    rw [List.cons_append, valB, valB, valB_append l (i + 1) x, List.length_cons, show i + (l.length + 1) = i + 1 + l.length by omega]
    omega
theorem orU_add (a y k : Nat) (ha : a < 2 ^ k) (hb : a + y * 2 ^ k < 18446744073709551616) : orI .u64 (a : Int) ((y * 2 ^ k : Nat) : Int) = ((a + y * 2 ^ k : Nat) : Int) := by
  have h64 : (2 : Nat) ^ 64 = 18446744073709551616 := by decide
  have hx : (BitVec.ofInt 64 (a : Int)).toNat = a := by rw [BitVec.toNat_ofInt]; omega
  have hy : (BitVec.ofInt 64 ((y * 2 ^ k : Nat) : Int)).toNat = y * 2 ^ k := by rw [BitVec.toNat_ofInt]; omega
  show IntKind.u64.wrap ((BitVec.ofInt 64 (a : Int) ||| BitVec.ofInt 64 ((y * 2 ^ k : Nat) : Int)).toNat : Int) = _
  rw [BitVec.toNat_or, hx, hy, Nat.or_comm, Nat.mul_comm, ← Nat.two_pow_add_eq_or_of_lt ha]
  have e2 : 2 ^ k * y + a = a + y * 2 ^ k := by rw [Nat.mul_comm, Nat.add_comm]
  rw [e2, Nat.mul_comm (2 ^ k) y]
  generalize a + y * 2 ^ k = q at *
  simp [IntKind.wrap, IntKind.bits, IntKind.signed]
  omega
theorem int_loop (l : List UInt8) (h8l : 8 ≤ l.length) (k : Nat) : ∀ (i : Nat), 8 = i + k →
    A.lp 166 0 (hd166_0 [pv (lU l), .at (.pv (.int .u64 (valB 0 (l.take i) : Nat))), iv i] []) = some (.exit 0, ex166_0 [pv (lU l), .at (.pv (.int .u64 (valB 0 (l.take 8) : Nat)))] []) := by
  induction k with
  | zero =>
    intro i hi
    obtain rfl : i = 8 := by omega
    rw [lp_run hL Tryz.func166 rfl (by rfl) 0 rfl]
    simp
  | succ k ih =>
    intro i hi
    have h8 : i < 8 := by omega
    have h8' : (i : Int) < 8 := by omega
    have h1 : i < l.length := by omega
    have w1 : IntKind.i64.wrap (8 * (i : Int)) = 8 * (i : Int) := wr _ (by omega) (by omega)
    have w2 : IntKind.u64.wrap (8 * (i : Int)) = 8 * (i : Int) := by simp [IntKind.wrap, IntKind.bits, IntKind.signed]; omega
    have w0 : ¬ 8 * (i : Int) < 0 := by omega
    have w3 : (8 * (i : Int)).toNat = 8 * i := by omega
    have w4 : min (8 * i) 64 = 8 * i := by omega
    have w6 : IntKind.i64.wrap ((i : Int) + 1) = i + 1 := wr _ (by omega) (by omega)
    have ih := ih (i + 1) (by omega)
    have tk : l.take (i + 1) = l.take i ++ [l[i]] := by rw [List.take_succ_eq_append_getElem h1]
    have hlen : (l.take i).length = i := by rw [List.length_take]; omega
    rw [tk, valB_append, hlen, Nat.zero_add] at ih
    have hv := valB_lt (l.take i) 0
    rw [hlen, Nat.zero_add, Nat.mul_zero, Nat.pow_zero] at hv
    have hx := l[i].toNat_lt
    have hp : 2 ^ (8 * i) ≤ 2 ^ 56 := Nat.pow_le_pow_right (by omega) (by omega)
    have hb : l[i].toNat * 2 ^ (8 * i) ≤ 255 * 2 ^ 56 := Nat.mul_le_mul (by omega) hp
    have e56 : (2 : Nat) ^ 56 = 72057594037927936 := by decide
    have hb2 : valB 0 (l.take i) + l[i].toNat * 2 ^ (8 * i) < 18446744073709551616 := by omega
    have w7 := orU_add (valB 0 (l.take i)) l[i].toNat (8 * i) (by omega) hb2
    have w5 : IntKind.u64.wrap (l[i].toNat : Int) = (l[i].toNat : Int) := by simp [IntKind.wrap, IntKind.bits, IntKind.signed]; omega
    have w8 : IntKind.u64.wrap ((l[i].toNat : Int) * 2 ^ (8 * i)) = (l[i].toNat : Int) * 2 ^ (8 * i) := by
      have e : (l[i].toNat : Int) * 2 ^ (8 * i) = ((l[i].toNat * 2 ^ (8 * i) : Nat) : Int) := by rw [Int.natCast_mul, Int.natCast_pow]; rfl
      rw [e]
      generalize l[i].toNat * 2 ^ (8 * i) = q at *
      simp [IntKind.wrap, IntKind.bits, IntKind.signed]
      omega
    generalize valB 0 (l.take i) = acc at *
    push_cast at w7 ih
    generalize hxx : l[i].toNat = x at *
    rw [lp_run hL Tryz.func166 rfl (by rfl) 0 rfl]
    simp [h1, h8', hxx, w0, w1, w2, w3, w4, w5, w6, w7, w8]
    simp at ih
    exact ih
/-- A whole number read: it, what stands behind it, an error's number. -/
def getI (l : List UInt8) : Int × List UInt8 × Int := if l.length < 8 then (0, [], 3) else (IntKind.i64.wrap (valB 0 (l.take 8) : Nat), l.drop 8, 0)
theorem intC (l : List UInt8) (hl : l.length < 1000000000) : A.fn 166 [pv (lU l)] [] = some (.tup [iv (getI l).1, pv (lU (getI l).2.1), iv (getI l).2.2], []) := by
  unfold getI
  by_cases h : l.length < 8
  · have h' : (l.length : Int) < 8 := by omega
    rw [if_pos h]
    rw [fn_run hL Tryz.func166 rfl L166 (by rfl) rfl rfl rfl (by decide)]
    simp [Tryz.f166, h']
  · have h' : ¬ (l.length : Int) < 8 := by omega
    have h2 : (8 : Int) ≤ l.length := by omega
    have h2n : 8 ≤ l.length := by omega
    rw [if_neg h]
    have q := int_loop l (by omega) 8 0 (by omega)
    have q2 := cloneU (l.drop 8) (by rw [List.length_drop]; omega)
    have e2 : List.take (l.length - 8) (List.drop 8 (List.map encU l)) = List.drop 8 (List.map encU l) := List.take_of_length_le (by simp)
    rw [List.take_zero] at q
    unfold lU rU at q2
    rw [List.map_drop] at q2
    simp only [valB] at q
    generalize valB 0 (l.take 8) = v at *
    rw [fn_run hL Tryz.func166 rfl L166 (by rfl) rfl rfl rfl (by decide)]
    simp at q
    simp [Tryz.f166, h', h2, h2n, q, q2, e2, -Int.not_lt]
theorem valB_int (n : Int) : ∀ (k i : Nat) , valB i (((List.range' i k)).map (intAt n)) = ((n % 18446744073709551616).toNat / 2 ^ (8 * i) % 2 ^ (8 * k)) * 2 ^ (8 * i)
  | 0, i => by simp [valB, Nat.mod_one]
  | k + 1, i => by
    rw [List.range'_succ, List.map_cons, valB, valB_int n k (i + 1)]
    unfold intAt
    generalize (n % 18446744073709551616).toNat = m
    have e1 : 2 ^ (8 * (i + 1)) = 2 ^ (8 * i) * 256 := by rw [show 8 * (i + 1) = 8 * i + 8 by omega, Nat.pow_add]
    have e2 : m / 2 ^ (8 * (i + 1)) = m / 2 ^ (8 * i) / 256 := by rw [e1, Nat.div_div_eq_div_mul]
    have e3 : 2 ^ (8 * (k + 1)) = 256 * 2 ^ (8 * k) := by rw [show 8 * (k + 1) = 8 + 8 * k by omega, Nat.pow_add]
    rw [ofNat_toNat (by omega), e2, e3, Nat.mod_mul, e1, Nat.add_mul]
    generalize m / 2 ^ (8 * i) = q
    generalize 2 ^ (8 * i) = B
    rw [Nat.mul_comm B 256, ← Nat.mul_assoc, Nat.mul_comm 256 (q / 256 % 2 ^ (8 * k))]
theorem intL_len (n : Int) : (intL n).length = 8 := by simp [intL]
theorem getI_put (n : Int) (rest : List UInt8) (h : I64 n) : getI (intL n ++ rest) = (n, rest, 0) := by
  obtain ⟨h0, h1⟩ := h
  have hl := intL_len n
  unfold getI
  rw [if_neg (by rw [List.length_append]; omega), List.take_left' hl, List.drop_left' hl]
  have e := valB_int n 8 0
  rw [← List.range_eq_range'] at e
  unfold intL
  rw [e, Nat.mul_zero, Nat.pow_zero, Nat.div_one, Nat.mul_one]
  have e64 : (2 : Nat) ^ (8 * 8) = 18446744073709551616 := by decide
  rw [e64, IntKind.wrap_i64]
  refine Prod.ext ?_ rfl
  show _ = n
  omega
end Go.E2.S
