/- VIb: VI4, VI5. -/
import Derived.Test.YtiliffhopdiepaaGreatVIa
import Derived.Test.YtiliffhopdiepaaGreatVFa
/-! Keys and prefixes; texts that begin with others; zones that cover. -/
namespace Go.E2.S
open Go Go.E2 Go.RowKit Go.Proofs
set_option linter.unusedVariables false
set_option linter.unusedSimpArgs false
set_option maxHeartbeats 1000000
set_option maxRecDepth 10000
/-! ### Plain -/
def okB (x : Int) : Prop := x = 47 ∨ (48 ≤ x ∧ x ≤ 57) ∨ (97 ≤ x ∧ x ≤ 122)
instance (x : Int) : Decidable (okB x) := by unfold okB; infer_instance
def okC (b : UInt8) : Bool := decide (okB b.toNat)
def pfx (s : ByteArray) : Bool := decide (s.size ≤ 16) && (bl s).all okC
def keyB (s : ByteArray) : Bool := decide (¬ s.size = 0) && pfx s
def hasP (s p : ByteArray) : Bool := (bl p).isPrefixOf (bl s)
def coversL (z : List ByteArray) (key : ByteArray) : Bool := z.any (hasP key)
theorem bl_len (s : ByteArray) : (bl s).length = s.size := by simp [bl]
/-- A text's byte. -/
def byteU (s : ByteArray) (i : Nat) : UInt8 := (bl s).getD i 0
theorem byte_q (s : ByteArray) (i : Nat) (h : i < s.size) : s[i]? = some (byteU s i) := by
  have h2 : i < (bl s).length := by simp [bl]; exact h
  unfold byteU
  rw [List.getD_eq_getElem?_getD, List.getElem?_eq_getElem h2, getElem?_pos s i h]
  simp only [bl, Array.getElem_toList, Option.getD_some]
  rfl
theorem byte_get (s : ByteArray) (i : Nat) (h2 : i < (bl s).length) : (bl s)[i] = byteU s i := by
  unfold byteU
  rw [List.getD_eq_getElem?_getD, List.getElem?_eq_getElem h2]
  rfl
theorem bl_extract (s : ByteArray) (n : Nat) : bl (s.extract 0 n) = (bl s).take n := by
  simp [bl, ByteArray.data_extract]
theorem hasP_ext (s p : ByteArray) (h : p.size ≤ s.size) : decide (s.extract 0 p.size = p) = hasP s p := by
  unfold hasP
  rw [Bool.eq_iff_iff, decide_eq_true_iff, List.isPrefixOf_iff_prefix, List.prefix_iff_eq_take, bl_len, ← bl_extract]
  exact ⟨fun e => by rw [e], fun e => (bl_inj e).symm⟩
theorem hasP_long (s p : ByteArray) (h : ¬ p.size ≤ s.size) : hasP s p = false := by
  rw [Bool.eq_false_iff]
  intro hp
  have := (List.isPrefixOf_iff_prefix.1 hp).length_le
  rw [bl_len, bl_len] at this
  exact h this
theorem all_okC (s : ByteArray) (i : Nat) (h : i < s.size) : ((bl s).drop i).all okC = (decide (okB ((byteU s i).toNat : Int)) && ((bl s).drop (i + 1)).all okC) := by
  have h2 : i < (bl s).length := by rw [bl_len]; omega
  rw [List.drop_eq_getElem_cons h2, List.all_cons, byte_get s i h2]
  rfl
theorem regions (x : Int) : (okB x ∧ (x < 97) = True ∧ (122 < x) = False ∧ (x < 48) = True ∧ (57 < x) = False ∧ (x = 47) = True ∧ (48 ≤ x) = False ∧ (x ≤ 57) = True ∧ (97 ≤ x) = False ∧ (x ≤ 122) = True) ∨
    (¬ okB x ∧ (x < 97) = True ∧ (122 < x) = False ∧ (x < 48) = True ∧ (57 < x) = False ∧ (x = 47) = False ∧ (48 ≤ x) = False ∧ (x ≤ 57) = True ∧ (97 ≤ x) = False ∧ (x ≤ 122) = True) ∨
    (okB x ∧ (x < 97) = True ∧ (122 < x) = False ∧ (x < 48) = False ∧ (57 < x) = False ∧ (x = 47) = False ∧ (48 ≤ x) = True ∧ (x ≤ 57) = True ∧ (97 ≤ x) = False ∧ (x ≤ 122) = True) ∨
    (¬ okB x ∧ (x < 97) = True ∧ (122 < x) = False ∧ (x < 48) = False ∧ (57 < x) = True ∧ (x = 47) = False ∧ (48 ≤ x) = True ∧ (x ≤ 57) = False ∧ (97 ≤ x) = False ∧ (x ≤ 122) = True) ∨
    (okB x ∧ (x < 97) = False ∧ (122 < x) = False ∧ (x < 48) = False ∧ (57 < x) = True ∧ (x = 47) = False ∧ (48 ≤ x) = True ∧ (x ≤ 57) = False ∧ (97 ≤ x) = True ∧ (x ≤ 122) = True) ∨
    (¬ okB x ∧ (x < 97) = False ∧ (122 < x) = True ∧ (x < 48) = False ∧ (57 < x) = True ∧ (x = 47) = False ∧ (48 ≤ x) = True ∧ (x ≤ 57) = False ∧ (97 ≤ x) = True ∧ (x ≤ 122) = False) := by
  simp only [eq_iff_iff, iff_true, iff_false]
  unfold okB
  by_cases h1 : x < 47
  · exact .inr (.inl (by omega))
  by_cases h2 : x = 47
  · exact .inl (by omega)
  by_cases h3 : x ≤ 57
  · exact .inr (.inr (.inl (by omega)))
  by_cases h4 : x < 97
  · exact .inr (.inr (.inr (.inl (by omega))))
  by_cases h5 : x ≤ 122
  · exact .inr (.inr (.inr (.inr (.inl (by omega)))))
  · exact .inr (.inr (.inr (.inr (.inr (by omega)))))
theorem zprefix_loop (s : ByteArray) (hs : s.size < 1000000000) (n : Nat) : ∀ i : Nat, s.size = i + n →
    A.lp 199 0 (hd199_0 [sv s, iv s.size, iv i] []) = some (if ((bl s).drop i).all okC = true then (.exit 0, ex199_0 [nov] []) else (.ret, ex199_0 [bv false] [])) := by
  induction n with
  | zero =>
    intro i hi
    rw [lp_run hL Tryz.func199 rfl (by rfl) 0 rfl]
    obtain rfl : i = s.size := by omega
    rw [List.drop_of_length_le (by rw [bl_len]; omega)]
    simp
  | succ n ih =>
    intro i hi
    have h1 : i < s.size := by omega
    have hq := byte_q s i h1
    have ih := ih (i + 1) (by omega)
    rw [all_okC s i h1]
    rw [lp_run hL Tryz.func199 rfl (by rfl) 0 rfl]
    generalize hb : ((byteU s i).toNat : Int) = b
    rcases regions b with ⟨q, f1, f2, f3, f4, f5, f6, f7, f8, f9⟩ | ⟨q, f1, f2, f3, f4, f5, f6, f7, f8, f9⟩ | ⟨q, f1, f2, f3, f4, f5, f6, f7, f8, f9⟩ | ⟨q, f1, f2, f3, f4, f5, f6, f7, f8, f9⟩ | ⟨q, f1, f2, f3, f4, f5, f6, f7, f8, f9⟩ | ⟨q, f1, f2, f3, f4, f5, f6, f7, f8, f9⟩
    · simp [h1, hq, hb, q, f1, f2, f3, f4, f5, f6, f7, f8, f9, -List.all_eq_true, -getElem?_pos]
      simp (disch := omega) only [wr]
      exact ih
    · simp [h1, hq, hb, q, f1, f2, f3, f4, f5, f6, f7, f8, f9, -List.all_eq_true, -getElem?_pos]
    · simp [h1, hq, hb, q, f1, f2, f3, f4, f5, f6, f7, f8, f9, -List.all_eq_true, -getElem?_pos]
      simp (disch := omega) only [wr]
      exact ih
    · simp [h1, hq, hb, q, f1, f2, f3, f4, f5, f6, f7, f8, f9, -List.all_eq_true, -getElem?_pos]
    · simp [h1, hq, hb, q, f1, f2, f3, f4, f5, f6, f7, f8, f9, -List.all_eq_true, -getElem?_pos]
      simp (disch := omega) only [wr]
      exact ih
    · simp [h1, hq, hb, q, f1, f2, f3, f4, f5, f6, f7, f8, f9, -List.all_eq_true, -getElem?_pos]
theorem zprefix (s : ByteArray) : A.fn 199 [sv s] [] = some (.one (bv (pfx s)), []) := by
  rw [fn_run hL Tryz.func199 rfl L199 (by rfl) rfl rfl rfl (by decide)]
  by_cases hl : s.size ≤ 16
  · have := zprefix_loop s (by omega) s.size 0 (by omega)
    have d : ¬ (16 : Int) < s.size := by omega
    cases h : (bl s).all okC
    · simp [Tryz.f199, hl, h, d, pfx, -List.all_eq_true] at this ⊢
      simp [this]
    · simp [Tryz.f199, hl, h, d, pfx, -List.all_eq_true] at this ⊢
      simp [this]
  · have d : (16 : Int) < s.size := by omega
    simp [Tryz.f199, hl, d, pfx]
theorem rprefix_loop (s : ByteArray) (hs : s.size ≤ 9223372036854775807) (n : Nat) : ∀ i : Nat, s.size = i + n →
    A.lp 154 0 (hd154_0 [sv s, iv i] []) = some (if ((bl s).drop i).all okC = true then (.exit 0, ex154_0 [sv s, nov] []) else (.ret, ex154_0 [sv s, bv false] [])) := by
  induction n with
  | zero =>
    intro i hi
    rw [lp_run hL Tryz.func154 rfl (by rfl) 0 rfl]
    obtain rfl : i = s.size := by omega
    rw [List.drop_of_length_le (by rw [bl_len]; omega)]
    simp
  | succ n ih =>
    intro i hi
    have h1 : i < s.size := by omega
    have hq := byte_q s i h1
    have ih := ih (i + 1) (by omega)
    rw [all_okC s i h1]
    rw [lp_run hL Tryz.func154 rfl (by rfl) 0 rfl]
    generalize hb : ((byteU s i).toNat : Int) = b
    rcases regions b with ⟨q, f1, f2, f3, f4, f5, f6, f7, f8, f9⟩ | ⟨q, f1, f2, f3, f4, f5, f6, f7, f8, f9⟩ | ⟨q, f1, f2, f3, f4, f5, f6, f7, f8, f9⟩ | ⟨q, f1, f2, f3, f4, f5, f6, f7, f8, f9⟩ | ⟨q, f1, f2, f3, f4, f5, f6, f7, f8, f9⟩ | ⟨q, f1, f2, f3, f4, f5, f6, f7, f8, f9⟩
    · simp [h1, hq, hb, q, f1, f2, f3, f4, f5, f6, f7, f8, f9, -List.all_eq_true, -getElem?_pos]
      simp (disch := omega) only [wr]
      exact ih
    · simp [h1, hq, hb, q, f1, f2, f3, f4, f5, f6, f7, f8, f9, -List.all_eq_true, -getElem?_pos]
    · simp [h1, hq, hb, q, f1, f2, f3, f4, f5, f6, f7, f8, f9, -List.all_eq_true, -getElem?_pos]
      simp (disch := omega) only [wr]
      exact ih
    · simp [h1, hq, hb, q, f1, f2, f3, f4, f5, f6, f7, f8, f9, -List.all_eq_true, -getElem?_pos]
    · simp [h1, hq, hb, q, f1, f2, f3, f4, f5, f6, f7, f8, f9, -List.all_eq_true, -getElem?_pos]
      simp (disch := omega) only [wr]
      exact ih
    · simp [h1, hq, hb, q, f1, f2, f3, f4, f5, f6, f7, f8, f9, -List.all_eq_true, -getElem?_pos]
theorem rprefix (s : ByteArray) (hs : s.size ≤ 9223372036854775807) : A.fn 154 [sv s] [] = some (.one (bv (pfx s)), []) := by
  have := rprefix_loop s hs s.size 0 (by omega)
  rw [fn_run hL Tryz.func154 rfl L154 (by rfl) rfl rfl rfl (by decide)]
  by_cases hl : s.size ≤ 16
  · have d : (s.size : Int) ≤ 16 := by omega
    cases h : (bl s).all okC
    · simp [Tryz.f154, hl, h, d, pfx, -List.all_eq_true] at this ⊢
      simp [this]
    · simp [Tryz.f154, hl, h, d, pfx, -List.all_eq_true] at this ⊢
      simp [this, d]
  · have d : ¬ (s.size : Int) ≤ 16 := by omega
    cases h : (bl s).all okC
    · simp [Tryz.f154, hl, h, d, pfx, -List.all_eq_true, -Int.not_le] at this ⊢
      simp [this]
    · simp [Tryz.f154, hl, h, d, pfx, -List.all_eq_true, -Int.not_le] at this ⊢
      simp [this, d, -Int.not_le]
end Go.E2.S
/-! Texts that begin with others; zones that cover; keys. -/
namespace Go.E2.S
open Go Go.E2 Go.RowKit Go.Proofs
set_option linter.unusedVariables false
set_option linter.unusedSimpArgs false
set_option maxHeartbeats 1000000
set_option maxRecDepth 10000
theorem size_zero (s : ByteArray) : s = ByteArray.empty ↔ s.size = 0 := ⟨fun h => by rw [h]; rfl, fun h => bl_inj ((List.eq_nil_of_length_eq_zero (l := bl s) (by rw [bl_len]; exact h)).trans rfl)⟩
theorem size_zero' (s : ByteArray) : s = ⟨#[]⟩ ↔ s.size = 0 := size_zero s
theorem zkey (s : ByteArray) : A.fn 146 [sv s] [] = some (.one (bv (keyB s)), []) := by
  have h := zprefix s
  rw [fn_run hL Tryz.func146 rfl L146 (by rfl) rfl rfl rfl (by decide)]
  by_cases c : s.size = 0
  · simp [Tryz.f146, h, keyB, size_zero', c]
  · simp [Tryz.f146, h, keyB, size_zero', c]
theorem rkey (s : ByteArray) (hs : s.size ≤ 9223372036854775807) : A.fn 153 [sv s] [] = some (.one (bv (keyB s)), []) := by
  have h := rprefix s hs
  rw [fn_run hL Tryz.func153 rfl L153 (by rfl) rfl rfl rfl (by decide)]
  by_cases c : s.size = 0
  · simp [Tryz.f153, h, keyB, c]
  · have c2 : 0 < s.size := by omega
    simp [Tryz.f153, h, keyB, c, c2]
theorem hasPrefix2 (s p : ByteArray) : A.fn 171 [sv s, sv p] [] = some (.one (bv (hasP s p)), []) := by
  rw [fn_run hL Tryz.func171 rfl L171 (by rfl) rfl rfl rfl (by decide)]
  by_cases c : p.size ≤ s.size
  · have h := hasP_ext s p c
    simp [Tryz.f171, c, h]
  · have h := hasP_long s p c
    simp [Tryz.f171, c, h, -Nat.not_le]
theorem hasPrefix (s p : ByteArray) : A.fn 98 [sv s, sv p] [] = some (.one (bv (hasP s p)), []) := by
  have h := hasPrefix2 s p
  rw [fn_run hL Tryz.func98 rfl L98 (by rfl) rfl rfl rfl (by decide)]
  simp [Tryz.f98, h]
theorem begins_loop (s p : ByteArray) (hs : p.size ≤ s.size) (hp : p.size ≤ 9223372036854775807) (n : Nat) : ∀ i : Nat, p.size = i + n →
    A.lp 128 0 (hd128_0 [sv s, sv p, iv i] []) = some (if ((bl p).drop i).isPrefixOf ((bl s).drop i) = true then (.exit 0, ex128_0 [nov] []) else (.ret, ex128_0 [bv false] [])) := by
  induction n with
  | zero =>
    intro i hi
    rw [lp_run hL Tryz.func128 rfl (by rfl) 0 rfl]
    obtain rfl : i = p.size := by omega
    rw [List.drop_of_length_le (by rw [bl_len]; omega)]
    simp
  | succ n ih =>
    intro i hi
    have h1 : i < p.size := by omega
    have h2 : i < s.size := by omega
    have q1 := byte_q p i h1
    have q2 := byte_q s i h2
    have ih := ih (i + 1) (by omega)
    have h3 : i < (bl p).length := by rw [bl_len]; omega
    have h4 : i < (bl s).length := by rw [bl_len]; omega
    rw [List.drop_eq_getElem_cons h3, List.drop_eq_getElem_cons h4, byte_get p i h3, byte_get s i h4, List.isPrefixOf_cons_cons]
    rw [lp_run hL Tryz.func128 rfl (by rfl) 0 rfl]
    by_cases c : byteU p i = byteU s i
    · simp [h1, h2, q1, q2, c, -getElem?_pos]
      simp (disch := omega) only [wr]
      refine ih.trans ?_
      simp
    · have c2 : ¬ ((byteU s i).toNat : Int) = (byteU p i).toNat := fun e => c (UInt8.toNat_inj.1 (by omega))
      simp [h1, h2, q1, q2, c, c2, -getElem?_pos]
theorem begins (s p : ByteArray) (hp : p.size ≤ 9223372036854775807) : A.fn 128 [sv s, sv p] [] = some (.one (bv (hasP s p)), []) := by
  rw [fn_run hL Tryz.func128 rfl L128 (by rfl) rfl rfl rfl (by decide)]
  by_cases c : p.size ≤ s.size
  · have h := begins_loop s p c hp p.size 0 (by omega)
    have c2 : ¬ s.size < p.size := by omega
    unfold hasP
    cases d : (bl p).isPrefixOf (bl s)
    · simp [Tryz.f128, c2, d, -Nat.not_lt] at h ⊢
      simp [h]
    · simp [Tryz.f128, c2, d, -Nat.not_lt] at h ⊢
      simp [h]
  · have c2 : s.size < p.size := by omega
    simp [Tryz.f128, c2, hasP_long s p c]
/-! ### IndexFunc over a list of texts -/
theorem idxS_loop (l : List ByteArray) (f : FuncId) (cs : List PV) (p : ByteArray → Bool) (hf : env.fns f = true) (hl : l.length < 1000000000) (hp : ∀ x ∈ l, A.fn f (sv x :: cs.map fun p => .at (.pv p)) [] = some (.one (bv (p x)), [])) (n : Nat) : ∀ i : Nat, l.length = i + n →
    A.lp 170 0 (hd170_0 [pv (lS l), pv (.fn f cs), iv l.length, iv i] []) =
      some (if (l.drop i).any p = true then (.ret, ex170_0 [iv (i + (l.drop i).findIdx p : Nat)] []) else (.exit 0, ex170_0 [nov] [])) := by
  induction n with
  | zero =>
    intro i hi
    rw [lp_run hL Tryz.func170 rfl (by rfl) 0 rfl]
    obtain rfl : i = l.length := by omega
    simp
  | succ n ih =>
    intro i hi
    have h1 : i < l.length := by omega
    have ih := ih (i + 1) (by omega)
    have hx := hp l[i] (List.getElem_mem h1)
    rw [lp_run hL Tryz.func170 rfl (by rfl) 0 rfl]
    rw [List.drop_eq_getElem_cons h1, List.any_cons, findI_cons]
    cases c : p l[i] with
    | true =>
      rw [c] at hx
      simp [h1, hx, hf]
    | false =>
      rw [c] at hx
      simp [h1, hx, hf, -List.any_eq_true]
      simp (disch := omega) only [wr]
      refine ih.trans ?_
      cases (l.drop (i + 1)).any p <;> simp [Nat.add_assoc, Nat.add_comm 1]
theorem idxS (l : List ByteArray) (f : FuncId) (cs : List PV) (p : ByteArray → Bool) (hf : env.fns f = true) (hl : l.length < 1000000000) (hp : ∀ x ∈ l, A.fn f (sv x :: cs.map fun p => .at (.pv p)) [] = some (.one (bv (p x)), [])) :
    A.fn 170 [pv (lS l), pv (.fn f cs)] [] = some (.one (iv (idxL p l)), []) := by
  have h := idxS_loop l f cs p hf hl hp l.length 0 (by omega)
  rw [fn_run hL Tryz.func170 rfl L170 (by rfl) rfl rfl rfl (by decide)]
  unfold idxL
  cases c : l.any p with
  | true =>
    simp [Tryz.f170, c] at h ⊢
    simp [h]
  | false =>
    simp [Tryz.f170, c] at h ⊢
    simp [h]
theorem hasS (l : List ByteArray) (f : FuncId) (cs : List PV) (p : ByteArray → Bool) (hf : env.fns f = true) (hl : l.length < 1000000000) (hp : ∀ x ∈ l, A.fn f (sv x :: cs.map fun p => .at (.pv p)) [] = some (.one (bv (p x)), [])) :
    A.fn 96 [pv (lS l), pv (.fn f cs)] [] = some (.one (bv (l.any p)), []) := by
  have h := idxS l f cs p hf hl hp
  rw [fn_run hL Tryz.func96 rfl L96 (by rfl) rfl rfl rfl (by decide)]
  unfold idxL at h
  cases c : l.any p with
  | true =>
    rw [c] at h
    simp at h
    simp [Tryz.f96, h]
  | false =>
    rw [c] at h
    simp at h
    simp [Tryz.f96, h]
theorem covers1 (p key : ByteArray) : A.fn 97 [sv p, pv (.ref [.str key])] [] = some (.one (bv (hasP key p)), []) := by
  have h := hasPrefix key p
  rw [fn_run hL Tryz.func97 rfl L97 (by rfl) rfl rfl rfl (by decide)]
  simp [Tryz.f97, h]
theorem covers (z : List ByteArray) (key : ByteArray) (hl : z.length < 1000000000) : A.fn 25 [pv (lS z), sv key] [] = some (.one (bv (coversL z key)), []) := by
  have h := hasS z 97 [.ref [.str key]] (hasP key) (by simp) hl fun x _ => covers1 x key
  rw [fn_run hL Tryz.func25 rfl L25 (by rfl) rfl rfl rfl (by decide)]
  simp [Tryz.f25, h, coversL]
theorem rcovers_loop (z : List ByteArray) (key : ByteArray) (hz : z.length < 1000000000) (hs : ∀ x ∈ z, x.size ≤ 9223372036854775807) (n : Nat) : ∀ i : Nat, z.length = i + n →
    A.lp 42 0 (hd42_0 [pv (lS z), sv key, iv i] []) = some (if (z.drop i).any (hasP key) = true then (.ret, ex42_0 [bv true] []) else (.exit 0, ex42_0 [nov] [])) := by
  induction n with
  | zero =>
    intro i hi
    rw [lp_run hL Tryz.func42 rfl (by rfl) 0 rfl]
    obtain rfl : i = z.length := by omega
    simp
  | succ n ih =>
    intro i hi
    have h1 : i < z.length := by omega
    have ih := ih (i + 1) (by omega)
    have h := begins key z[i] (hs _ (List.getElem_mem h1))
    rw [List.drop_eq_getElem_cons h1, List.any_cons]
    rw [lp_run hL Tryz.func42 rfl (by rfl) 0 rfl]
    cases c : hasP key z[i] with
    | true =>
      rw [c] at h
      simp [h1, h]
    | false =>
      rw [c] at h
      simp [h1, h, -List.any_eq_true]
      simp (disch := omega) only [wr]
      exact ih
theorem rcovers (z : List ByteArray) (key : ByteArray) (hz : z.length < 1000000000) (hs : ∀ x ∈ z, x.size ≤ 9223372036854775807) : A.fn 42 [pv (lS z), sv key] [] = some (.one (bv (coversL z key)), []) := by
  have h := rcovers_loop z key hz hs z.length 0 (by omega)
  rw [fn_run hL Tryz.func42 rfl L42 (by rfl) rfl rfl rfl (by decide)]
  unfold coversL
  cases c : z.any (hasP key) with
  | true =>
    simp [Tryz.f42, c] at h ⊢
    simp [h]
  | false =>
    simp [Tryz.f42, c] at h ⊢
    simp [h]
end Go.E2.S
