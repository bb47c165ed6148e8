/- VIb: VI4, VI5. -/
import Derived.Test.YtiliffhopdiepaaVIa
import Derived.Test.YtiliffhopdiepaaVF1
/-! Keys and prefixes; texts that begin with others; zones that cover. -/
namespace Go.E2.S
open Go Go.E2 Go.RowKit Go.Proofs
set_option linter.unusedVariables false
set_option linter.unusedSimpArgs false
set_option maxHeartbeats 1000000
set_option maxRecDepth 10000
/-! ### Plain -/
def okB (x : Int) : Prop := x = 47 ∨ (48 ≤ x ∧ x ≤ 57) ∨ (97 ≤ x ∧ x ≤ 122)
instance (x : Int) : Decidable (okB x) := by unfold okB; infer_instance
def okC (b : UInt8) : Bool := decide (okB b.toNat)
def pfx (s : ByteArray) : Bool := decide (s.size ≤ 16) && (bl s).all okC
def keyB (s : ByteArray) : Bool := decide (¬ s.size = 0) && pfx s
def hasP (s p : ByteArray) : Bool := (bl p).isPrefixOf (bl s)
def coversL (z : List ByteArray) (key : ByteArray) : Bool := z.any (hasP key)
theorem bl_len (s : ByteArray) : (bl s).length = s.size := by simp [bl]
/-- A text's byte. -/
def byteU (s : ByteArray) (i : Nat) : UInt8 := (bl s).getD i 0
theorem byte_q (s : ByteArray) (i : Nat) (h : i < s.size) : s[i]? = some (byteU s i) := by
  have h2 : i < (bl s).length := by simp [bl]; exact h
  unfold byteU
  rw [List.getD_eq_getElem?_getD, List.getElem?_eq_getElem h2, getElem?_pos s i h]
  simp only [bl, Array.getElem_toList, Option.getD_some]
  rfl
theorem byte_get (s : ByteArray) (i : Nat) (h2 : i < (bl s).length) : (bl s)[i] = byteU s i := by
  unfold byteU
  rw [List.getD_eq_getElem?_getD, List.getElem?_eq_getElem h2]
  rfl
theorem bl_extract (s : ByteArray) (n : Nat) : bl (s.extract 0 n) = (bl s).take n := by
  simp [bl, ByteArray.data_extract]
theorem hasP_ext (s p : ByteArray) (h : p.size ≤ s.size) : decide (s.extract 0 p.size = p) = hasP s p := by
  unfold hasP
  rw [Bool.eq_iff_iff, decide_eq_true_iff, List.isPrefixOf_iff_prefix, List.prefix_iff_eq_take, bl_len, ← bl_extract]
  exact ⟨fun e => by rw [e], fun e => (bl_inj e).symm⟩
theorem hasP_long (s p : ByteArray) (h : ¬ p.size ≤ s.size) : hasP s p = false := by
  rw [Bool.eq_false_iff]
  intro hp
  have := (List.isPrefixOf_iff_prefix.1 hp).length_le
  rw [bl_len, bl_len] at this
  exact h this
theorem all_okC (s : ByteArray) (i : Nat) (h : i < s.size) : ((bl s).drop i).all okC = (decide (okB ((byteU s i).toNat : Int)) && ((bl s).drop (i + 1)).all okC) := by
  have h2 : i < (bl s).length := by rw [bl_len]; omega
  rw [List.drop_eq_getElem_cons h2, List.all_cons, byte_get s i h2]
  rfl
theorem regions (x : Int) : (okB x ∧ (x < 97) = True ∧ (122 < x) = False ∧ (x < 48) = True ∧ (57 < x) = False ∧ (x = 47) = True ∧ (48 ≤ x) = False ∧ (x ≤ 57) = True ∧ (97 ≤ x) = False ∧ (x ≤ 122) = True) ∨
    (¬ okB x ∧ (x < 97) = True ∧ (122 < x) = False ∧ (x < 48) = True ∧ (57 < x) = False ∧ (x = 47) = False ∧ (48 ≤ x) = False ∧ (x ≤ 57) = True ∧ (97 ≤ x) = False ∧ (x ≤ 122) = True) ∨
    (okB x ∧ (x < 97) = True ∧ (122 < x) = False ∧ (x < 48) = False ∧ (57 < x) = False ∧ (x = 47) = False ∧ (48 ≤ x) = True ∧ (x ≤ 57) = True ∧ (97 ≤ x) = False ∧ (x ≤ 122) = True) ∨
    (¬ okB x ∧ (x < 97) = True ∧ (122 < x) = False ∧ (x < 48) = False ∧ (57 < x) = True ∧ (x = 47) = False ∧ (48 ≤ x) = True ∧ (x ≤ 57) = False ∧ (97 ≤ x) = False ∧ (x ≤ 122) = True) ∨
    (okB x ∧ (x < 97) = False ∧ (122 < x) = False ∧ (x < 48) = False ∧ (57 < x) = True ∧ (x = 47) = False ∧ (48 ≤ x) = True ∧ (x ≤ 57) = False ∧ (97 ≤ x) = True ∧ (x ≤ 122) = True) ∨
    (¬ okB x ∧ (x < 97) = False ∧ (122 < x) = True ∧ (x < 48) = False ∧ (57 < x) = True ∧ (x = 47) = False ∧ (48 ≤ x) = True ∧ (x ≤ 57) = False ∧ (97 ≤ x) = True ∧ (x ≤ 122) = False) := by
  simp only [eq_iff_iff, iff_true, iff_false]
  unfold okB
  by_cases h1 : x < 47
  · exact .inr (.inl (by omega))
  by_cases h2 : x = 47
  · exact .inl (by omega)
  by_cases h3 : x ≤ 57
  · exact .inr (.inr (.inl (by omega)))
  by_cases h4 : x < 97
  · exact .inr (.inr (.inr (.inl (by omega))))
  by_cases h5 : x ≤ 122
  · exact .inr (.inr (.inr (.inr (.inl (by omega)))))
  · exact .inr (.inr (.inr (.inr (.inr (by omega)))))
end Go.E2.S
/-! Texts that begin with others; zones that cover; keys. -/
namespace Go.E2.S
open Go Go.E2 Go.RowKit Go.Proofs
set_option linter.unusedVariables false
set_option linter.unusedSimpArgs false
set_option maxHeartbeats 1000000
set_option maxRecDepth 10000
theorem size_zero (s : ByteArray) : s = ByteArray.empty ↔ s.size = 0 := ⟨fun h => by rw [h]; rfl, fun h => bl_inj ((List.eq_nil_of_length_eq_zero (l := bl s) (by rw [bl_len]; exact h)).trans rfl)⟩
theorem size_zero' (s : ByteArray) : s = ⟨#[]⟩ ↔ s.size = 0 := size_zero s
theorem hasPrefix2 (s p : ByteArray) : A.fn 92 [sv s, sv p] [] = some (.one (bv (hasP s p)), []) := by
  rw [fn_run hL Try.func92 rfl L92 (by rfl) rfl rfl rfl (by decide)]
  by_cases c : p.size ≤ s.size
  · have h := hasP_ext s p c
    simp [Try.f92, c, h]
  · have h := hasP_long s p c
    simp [Try.f92, c, h, -Nat.not_le]
theorem hasPrefix (s p : ByteArray) : A.fn 65 [sv s, sv p] [] = some (.one (bv (hasP s p)), []) := by
  have h := hasPrefix2 s p
  rw [fn_run hL Try.func65 rfl L65 (by rfl) rfl rfl rfl (by decide)]
  simp [Try.f65, h]
/-! ### IndexFunc over a list of texts -/
theorem idxS_loop (l : List ByteArray) (f : FuncId) (cs : List PV) (p : ByteArray → Bool) (hf : env.fns f = true) (hl : l.length < 1000000000) (hp : ∀ x ∈ l, A.fn f (sv x :: cs.map fun p => .at (.pv p)) [] = some (.one (bv (p x)), [])) (n : Nat) : ∀ i : Nat, l.length = i + n →
    A.lp 43 0 (hd43_0 [pv (lS l), pv (.fn f cs), iv l.length, iv i] []) =
      some (if (l.drop i).any p = true then (.ret, ex43_0 [iv (i + (l.drop i).findIdx p : Nat)] []) else (.exit 0, ex43_0 [nov] [])) := by
  induction n with
  | zero =>
    intro i hi
    rw [lp_run hL Try.func43 rfl (by rfl) 0 rfl]
    obtain rfl : i = l.length := by omega
    simp
  | succ n ih =>
    intro i hi
    have h1 : i < l.length := by omega
    have ih := ih (i + 1) (by omega)
    have hx := hp l[i] (List.getElem_mem h1)
    rw [lp_run hL Try.func43 rfl (by rfl) 0 rfl]
    rw [List.drop_eq_getElem_cons h1, List.any_cons, findI_cons]
    cases c : p l[i] with
    | true =>
      rw [c] at hx
      simp [h1, hx, hf]
    | false =>
      rw [c] at hx
      simp [h1, hx, hf, -List.any_eq_true]
      simp (disch := omega) only [wr]
      refine ih.trans ?_
      cases (l.drop (i + 1)).any p <;> simp [Nat.add_assoc, Nat.add_comm 1]
theorem idxS (l : List ByteArray) (f : FuncId) (cs : List PV) (p : ByteArray → Bool) (hf : env.fns f = true) (hl : l.length < 1000000000) (hp : ∀ x ∈ l, A.fn f (sv x :: cs.map fun p => .at (.pv p)) [] = some (.one (bv (p x)), [])) :
    A.fn 43 [pv (lS l), pv (.fn f cs)] [] = some (.one (iv (idxL p l)), []) := by
  have h := idxS_loop l f cs p hf hl hp l.length 0 (by omega)
  rw [fn_run hL Try.func43 rfl L43 (by rfl) rfl rfl rfl (by decide)]
  unfold idxL
  cases c : l.any p with
  | true =>
    simp [Try.f43, c] at h ⊢
    simp [h]
  | false =>
    simp [Try.f43, c] at h ⊢
    simp [h]
theorem hasS (l : List ByteArray) (f : FuncId) (cs : List PV) (p : ByteArray → Bool) (hf : env.fns f = true) (hl : l.length < 1000000000) (hp : ∀ x ∈ l, A.fn f (sv x :: cs.map fun p => .at (.pv p)) [] = some (.one (bv (p x)), [])) :
    A.fn 63 [pv (lS l), pv (.fn f cs)] [] = some (.one (bv (l.any p)), []) := by
  have h := idxS l f cs p hf hl hp
  rw [fn_run hL Try.func63 rfl L63 (by rfl) rfl rfl rfl (by decide)]
  unfold idxL at h
  cases c : l.any p with
  | true =>
    rw [c] at h
    simp at h
    simp [Try.f63, h]
  | false =>
    rw [c] at h
    simp at h
    simp [Try.f63, h]
theorem covers1 (p key : ByteArray) : A.fn 64 [sv p, pv (.ref [.str key])] [] = some (.one (bv (hasP key p)), []) := by
  have h := hasPrefix key p
  rw [fn_run hL Try.func64 rfl L64 (by rfl) rfl rfl rfl (by decide)]
  simp [Try.f64, h]
theorem covers (z : List ByteArray) (key : ByteArray) (hl : z.length < 1000000000) : A.fn 48 [pv (lS z), sv key] [] = some (.one (bv (coversL z key)), []) := by
  have h := hasS z 64 [.ref [.str key]] (hasP key) (by simp) hl fun x _ => covers1 x key
  rw [fn_run hL Try.func48 rfl L48 (by rfl) rfl rfl rfl (by decide)]
  simp [Try.f48, h, coversL]
end Go.E2.S
