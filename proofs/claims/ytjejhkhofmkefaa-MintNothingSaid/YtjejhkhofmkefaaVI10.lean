/- Well-formed items. -/
import Derived.Test.YtjejhkhofmkefaaVI5
namespace Go.E2.S
open Go Go.E2 Go.RowKit Go.Proofs
set_option linter.unusedVariables false
set_option linter.unusedSimpArgs false
set_option maxHeartbeats 4000000
set_option maxRecDepth 10000
def rngB (x lo hi : Int) : Bool := decide (lo ≤ x) && decide (x ≤ hi)
def kindB (x : Item) : Bool := (decide (x.f2 = 1) || decide (x.f2 = 2)) && decide (x.f4 = 0) || decide (x.f2 = 3) && decide (x.f3.size = 0)
def formedI (x : Item) : Bool := keyB x.f0 && (pfx x.f1 && (decide (x.f3.size ≤ 32) && (kindB x && (rngB x.f5.f0 0 7 && (rngB x.f5.f1 1 1073741824 && rngB x.f5.f2 0 7)))))
theorem pfx_zero (s : ByteArray) (h : s.size = 0) : pfx s = true := by
  have e : bl s = [] := List.eq_nil_of_length_eq_zero (by rw [bl_len]; exact h)
  simp [pfx, h, e]
theorem rng (x lo hi hi1 : Int) (h : lo ≤ hi) (e : hi1 = hi + 1) : (rngB x lo hi = false ∧ (x < lo) = True ∧ (lo ≤ x) = False ∧ (x < hi1) = True ∧ (hi < x) = False ∧ (x ≤ hi) = True ∧ (hi1 ≤ x) = False) ∨
    (rngB x lo hi = true ∧ (x < lo) = False ∧ (lo ≤ x) = True ∧ (x < hi1) = True ∧ (hi < x) = False ∧ (x ≤ hi) = True ∧ (hi1 ≤ x) = False) ∨
    (rngB x lo hi = false ∧ (x < lo) = False ∧ (lo ≤ x) = True ∧ (x < hi1) = False ∧ (hi < x) = True ∧ (x ≤ hi) = False ∧ (hi1 ≤ x) = True) := by
  unfold rngB
  by_cases h1 : x < lo
  · refine .inl ⟨by simp; omega, eq_true h1, eq_false (by omega), eq_true (by omega), eq_false (by omega), eq_true (by omega), eq_false (by omega)⟩
  · by_cases h2 : x ≤ hi
    · refine .inr (.inl ⟨by simp; omega, eq_false h1, eq_true (by omega), eq_true (by omega), eq_false (by omega), eq_true (by omega), eq_false (by omega)⟩)
    · refine .inr (.inr ⟨by simp; omega, eq_false h1, eq_true (by omega), eq_false (by omega), eq_true (by omega), eq_false (by omega), eq_true (by omega)⟩)
theorem size_le (n : Nat) (h : n ≤ 32) : (32 < (n : Int)) = False ∧ ((n : Int) ≤ 32) = True := ⟨eq_false (by omega), eq_true (by omega)⟩
theorem size_gt (n : Nat) (h : ¬ n ≤ 32) : (32 < (n : Int)) = True ∧ ((n : Int) ≤ 32) = False := ⟨eq_true (by omega), eq_false (by omega)⟩
theorem formed (x : Item) : A.fn 27 [ag (encI x)] [] = some (.one (bv (formedI x)), []) := by
  have h0 := zkey x.f0
  have h1 := zkey x.f1
  rw [fn_run hL Try.func27 rfl L27 (by rfl) rfl rfl rfl (by decide)]
  simp only [bv] at h0 h1
  cases a : keyB x.f0
  · rw [a] at h0
    simp [Try.f27, formedI, h0, a]
  · rw [a] at h0
    by_cases z1 : x.f1.size = 0
    · have p1 := pfx_zero _ z1
      by_cases s3 : x.f3.size ≤ 32
      · obtain ⟨s3a, s3b⟩ := size_le _ s3
        by_cases k1 : x.f2 = 1
        · by_cases n0 : x.f4 = 0
          · rcases rng x.f5.f0 0 7 8 (by omega) rfl with ⟨r0, r0a, r0b, r0c, r0d, r0e, r0f⟩ | ⟨r0, r0a, r0b, r0c, r0d, r0e, r0f⟩ | ⟨r0, r0a, r0b, r0c, r0d, r0e, r0f⟩
            · simp [Try.f27, formedI, kindB, size_zero', h0, a, z1, p1, s3, s3a, s3b, k1, n0, r0, r0a, r0b, r0c, r0d, r0e, r0f]
            · rcases rng x.f5.f1 1 1073741824 1073741825 (by omega) rfl with ⟨r1, r1a, r1b, r1c, r1d, r1e, r1f⟩ | ⟨r1, r1a, r1b, r1c, r1d, r1e, r1f⟩ | ⟨r1, r1a, r1b, r1c, r1d, r1e, r1f⟩
              · simp [Try.f27, formedI, kindB, size_zero', h0, a, z1, p1, s3, s3a, s3b, k1, n0, r0, r0a, r0b, r0c, r0d, r0e, r0f, r1, r1a, r1b, r1c, r1d, r1e, r1f]
              · rcases rng x.f5.f2 0 7 8 (by omega) rfl with ⟨r2, r2a, r2b, r2c, r2d, r2e, r2f⟩ | ⟨r2, r2a, r2b, r2c, r2d, r2e, r2f⟩ | ⟨r2, r2a, r2b, r2c, r2d, r2e, r2f⟩
                · simp [Try.f27, formedI, kindB, size_zero', h0, a, z1, p1, s3, s3a, s3b, k1, n0, r0, r0a, r0b, r0c, r0d, r0e, r0f, r1, r1a, r1b, r1c, r1d, r1e, r1f, r2, r2a, r2b, r2c, r2d, r2e, r2f]
                · simp [Try.f27, formedI, kindB, size_zero', h0, a, z1, p1, s3, s3a, s3b, k1, n0, r0, r0a, r0b, r0c, r0d, r0e, r0f, r1, r1a, r1b, r1c, r1d, r1e, r1f, r2, r2a, r2b, r2c, r2d, r2e, r2f]
                · simp [Try.f27, formedI, kindB, size_zero', h0, a, z1, p1, s3, s3a, s3b, k1, n0, r0, r0a, r0b, r0c, r0d, r0e, r0f, r1, r1a, r1b, r1c, r1d, r1e, r1f, r2, r2a, r2b, r2c, r2d, r2e, r2f]
              · simp [Try.f27, formedI, kindB, size_zero', h0, a, z1, p1, s3, s3a, s3b, k1, n0, r0, r0a, r0b, r0c, r0d, r0e, r0f, r1, r1a, r1b, r1c, r1d, r1e, r1f]
            · simp [Try.f27, formedI, kindB, size_zero', h0, a, z1, p1, s3, s3a, s3b, k1, n0, r0, r0a, r0b, r0c, r0d, r0e, r0f]
          · simp [Try.f27, formedI, kindB, size_zero', h0, a, z1, p1, s3, s3a, s3b, k1, n0]
        · by_cases k2 : x.f2 = 2
          · by_cases n0 : x.f4 = 0
            · rcases rng x.f5.f0 0 7 8 (by omega) rfl with ⟨r0, r0a, r0b, r0c, r0d, r0e, r0f⟩ | ⟨r0, r0a, r0b, r0c, r0d, r0e, r0f⟩ | ⟨r0, r0a, r0b, r0c, r0d, r0e, r0f⟩
              · simp [Try.f27, formedI, kindB, size_zero', h0, a, z1, p1, s3, s3a, s3b, k2, n0, r0, r0a, r0b, r0c, r0d, r0e, r0f]
              · rcases rng x.f5.f1 1 1073741824 1073741825 (by omega) rfl with ⟨r1, r1a, r1b, r1c, r1d, r1e, r1f⟩ | ⟨r1, r1a, r1b, r1c, r1d, r1e, r1f⟩ | ⟨r1, r1a, r1b, r1c, r1d, r1e, r1f⟩
                · simp [Try.f27, formedI, kindB, size_zero', h0, a, z1, p1, s3, s3a, s3b, k2, n0, r0, r0a, r0b, r0c, r0d, r0e, r0f, r1, r1a, r1b, r1c, r1d, r1e, r1f]
                · rcases rng x.f5.f2 0 7 8 (by omega) rfl with ⟨r2, r2a, r2b, r2c, r2d, r2e, r2f⟩ | ⟨r2, r2a, r2b, r2c, r2d, r2e, r2f⟩ | ⟨r2, r2a, r2b, r2c, r2d, r2e, r2f⟩
                  · simp [Try.f27, formedI, kindB, size_zero', h0, a, z1, p1, s3, s3a, s3b, k2, n0, r0, r0a, r0b, r0c, r0d, r0e, r0f, r1, r1a, r1b, r1c, r1d, r1e, r1f, r2, r2a, r2b, r2c, r2d, r2e, r2f]
                  · simp [Try.f27, formedI, kindB, size_zero', h0, a, z1, p1, s3, s3a, s3b, k2, n0, r0, r0a, r0b, r0c, r0d, r0e, r0f, r1, r1a, r1b, r1c, r1d, r1e, r1f, r2, r2a, r2b, r2c, r2d, r2e, r2f]
                  · simp [Try.f27, formedI, kindB, size_zero', h0, a, z1, p1, s3, s3a, s3b, k2, n0, r0, r0a, r0b, r0c, r0d, r0e, r0f, r1, r1a, r1b, r1c, r1d, r1e, r1f, r2, r2a, r2b, r2c, r2d, r2e, r2f]
                · simp [Try.f27, formedI, kindB, size_zero', h0, a, z1, p1, s3, s3a, s3b, k2, n0, r0, r0a, r0b, r0c, r0d, r0e, r0f, r1, r1a, r1b, r1c, r1d, r1e, r1f]
              · simp [Try.f27, formedI, kindB, size_zero', h0, a, z1, p1, s3, s3a, s3b, k2, n0, r0, r0a, r0b, r0c, r0d, r0e, r0f]
            · simp [Try.f27, formedI, kindB, size_zero', h0, a, z1, p1, s3, s3a, s3b, k2, n0]
          · by_cases k3 : x.f2 = 3
            · by_cases z3 : x.f3.size = 0
              · rcases rng x.f5.f0 0 7 8 (by omega) rfl with ⟨r0, r0a, r0b, r0c, r0d, r0e, r0f⟩ | ⟨r0, r0a, r0b, r0c, r0d, r0e, r0f⟩ | ⟨r0, r0a, r0b, r0c, r0d, r0e, r0f⟩
                · simp [Try.f27, formedI, kindB, size_zero', h0, a, z1, p1, s3, s3a, s3b, k3, z3, r0, r0a, r0b, r0c, r0d, r0e, r0f]
                · rcases rng x.f5.f1 1 1073741824 1073741825 (by omega) rfl with ⟨r1, r1a, r1b, r1c, r1d, r1e, r1f⟩ | ⟨r1, r1a, r1b, r1c, r1d, r1e, r1f⟩ | ⟨r1, r1a, r1b, r1c, r1d, r1e, r1f⟩
                  · simp [Try.f27, formedI, kindB, size_zero', h0, a, z1, p1, s3, s3a, s3b, k3, z3, r0, r0a, r0b, r0c, r0d, r0e, r0f, r1, r1a, r1b, r1c, r1d, r1e, r1f]
                  · rcases rng x.f5.f2 0 7 8 (by omega) rfl with ⟨r2, r2a, r2b, r2c, r2d, r2e, r2f⟩ | ⟨r2, r2a, r2b, r2c, r2d, r2e, r2f⟩ | ⟨r2, r2a, r2b, r2c, r2d, r2e, r2f⟩
                    · simp [Try.f27, formedI, kindB, size_zero', h0, a, z1, p1, s3, s3a, s3b, k3, z3, r0, r0a, r0b, r0c, r0d, r0e, r0f, r1, r1a, r1b, r1c, r1d, r1e, r1f, r2, r2a, r2b, r2c, r2d, r2e, r2f]
                    · simp [Try.f27, formedI, kindB, size_zero', h0, a, z1, p1, s3, s3a, s3b, k3, z3, r0, r0a, r0b, r0c, r0d, r0e, r0f, r1, r1a, r1b, r1c, r1d, r1e, r1f, r2, r2a, r2b, r2c, r2d, r2e, r2f]
                    · simp [Try.f27, formedI, kindB, size_zero', h0, a, z1, p1, s3, s3a, s3b, k3, z3, r0, r0a, r0b, r0c, r0d, r0e, r0f, r1, r1a, r1b, r1c, r1d, r1e, r1f, r2, r2a, r2b, r2c, r2d, r2e, r2f]
                  · simp [Try.f27, formedI, kindB, size_zero', h0, a, z1, p1, s3, s3a, s3b, k3, z3, r0, r0a, r0b, r0c, r0d, r0e, r0f, r1, r1a, r1b, r1c, r1d, r1e, r1f]
                · simp [Try.f27, formedI, kindB, size_zero', h0, a, z1, p1, s3, s3a, s3b, k3, z3, r0, r0a, r0b, r0c, r0d, r0e, r0f]
              · simp [Try.f27, formedI, kindB, size_zero', h0, a, z1, p1, s3, s3a, s3b, k3, z3]
            · simp [Try.f27, formedI, kindB, size_zero', h0, a, z1, p1, s3, s3a, s3b, k1, k2, k3]
      · obtain ⟨s3a, s3b⟩ := size_gt _ s3
        simp [Try.f27, formedI, kindB, size_zero', h0, a, z1, p1, s3, s3a, s3b]
    · cases p1 : pfx x.f1
      · rw [show keyB x.f1 = false by simp [keyB, p1]] at h1
        simp [Try.f27, formedI, size_zero', h0, h1, a, z1, p1]
      · rw [show keyB x.f1 = true by simp [keyB, p1, z1]] at h1
        by_cases s3 : x.f3.size ≤ 32
        · obtain ⟨s3a, s3b⟩ := size_le _ s3
          by_cases k1 : x.f2 = 1
          · by_cases n0 : x.f4 = 0
            · rcases rng x.f5.f0 0 7 8 (by omega) rfl with ⟨r0, r0a, r0b, r0c, r0d, r0e, r0f⟩ | ⟨r0, r0a, r0b, r0c, r0d, r0e, r0f⟩ | ⟨r0, r0a, r0b, r0c, r0d, r0e, r0f⟩
              · simp [Try.f27, formedI, kindB, size_zero', h0, h1, a, z1, p1, s3, s3a, s3b, k1, n0, r0, r0a, r0b, r0c, r0d, r0e, r0f]
              · rcases rng x.f5.f1 1 1073741824 1073741825 (by omega) rfl with ⟨r1, r1a, r1b, r1c, r1d, r1e, r1f⟩ | ⟨r1, r1a, r1b, r1c, r1d, r1e, r1f⟩ | ⟨r1, r1a, r1b, r1c, r1d, r1e, r1f⟩
                · simp [Try.f27, formedI, kindB, size_zero', h0, h1, a, z1, p1, s3, s3a, s3b, k1, n0, r0, r0a, r0b, r0c, r0d, r0e, r0f, r1, r1a, r1b, r1c, r1d, r1e, r1f]
                · rcases rng x.f5.f2 0 7 8 (by omega) rfl with ⟨r2, r2a, r2b, r2c, r2d, r2e, r2f⟩ | ⟨r2, r2a, r2b, r2c, r2d, r2e, r2f⟩ | ⟨r2, r2a, r2b, r2c, r2d, r2e, r2f⟩
                  · simp [Try.f27, formedI, kindB, size_zero', h0, h1, a, z1, p1, s3, s3a, s3b, k1, n0, r0, r0a, r0b, r0c, r0d, r0e, r0f, r1, r1a, r1b, r1c, r1d, r1e, r1f, r2, r2a, r2b, r2c, r2d, r2e, r2f]
                  · simp [Try.f27, formedI, kindB, size_zero', h0, h1, a, z1, p1, s3, s3a, s3b, k1, n0, r0, r0a, r0b, r0c, r0d, r0e, r0f, r1, r1a, r1b, r1c, r1d, r1e, r1f, r2, r2a, r2b, r2c, r2d, r2e, r2f]
                  · simp [Try.f27, formedI, kindB, size_zero', h0, h1, a, z1, p1, s3, s3a, s3b, k1, n0, r0, r0a, r0b, r0c, r0d, r0e, r0f, r1, r1a, r1b, r1c, r1d, r1e, r1f, r2, r2a, r2b, r2c, r2d, r2e, r2f]
                · simp [Try.f27, formedI, kindB, size_zero', h0, h1, a, z1, p1, s3, s3a, s3b, k1, n0, r0, r0a, r0b, r0c, r0d, r0e, r0f, r1, r1a, r1b, r1c, r1d, r1e, r1f]
              · simp [Try.f27, formedI, kindB, size_zero', h0, h1, a, z1, p1, s3, s3a, s3b, k1, n0, r0, r0a, r0b, r0c, r0d, r0e, r0f]
            · simp [Try.f27, formedI, kindB, size_zero', h0, h1, a, z1, p1, s3, s3a, s3b, k1, n0]
          · by_cases k2 : x.f2 = 2
            · by_cases n0 : x.f4 = 0
              · rcases rng x.f5.f0 0 7 8 (by omega) rfl with ⟨r0, r0a, r0b, r0c, r0d, r0e, r0f⟩ | ⟨r0, r0a, r0b, r0c, r0d, r0e, r0f⟩ | ⟨r0, r0a, r0b, r0c, r0d, r0e, r0f⟩
                · simp [Try.f27, formedI, kindB, size_zero', h0, h1, a, z1, p1, s3, s3a, s3b, k2, n0, r0, r0a, r0b, r0c, r0d, r0e, r0f]
                · rcases rng x.f5.f1 1 1073741824 1073741825 (by omega) rfl with ⟨r1, r1a, r1b, r1c, r1d, r1e, r1f⟩ | ⟨r1, r1a, r1b, r1c, r1d, r1e, r1f⟩ | ⟨r1, r1a, r1b, r1c, r1d, r1e, r1f⟩
                  · simp [Try.f27, formedI, kindB, size_zero', h0, h1, a, z1, p1, s3, s3a, s3b, k2, n0, r0, r0a, r0b, r0c, r0d, r0e, r0f, r1, r1a, r1b, r1c, r1d, r1e, r1f]
                  · rcases rng x.f5.f2 0 7 8 (by omega) rfl with ⟨r2, r2a, r2b, r2c, r2d, r2e, r2f⟩ | ⟨r2, r2a, r2b, r2c, r2d, r2e, r2f⟩ | ⟨r2, r2a, r2b, r2c, r2d, r2e, r2f⟩
                    · simp [Try.f27, formedI, kindB, size_zero', h0, h1, a, z1, p1, s3, s3a, s3b, k2, n0, r0, r0a, r0b, r0c, r0d, r0e, r0f, r1, r1a, r1b, r1c, r1d, r1e, r1f, r2, r2a, r2b, r2c, r2d, r2e, r2f]
                    · simp [Try.f27, formedI, kindB, size_zero', h0, h1, a, z1, p1, s3, s3a, s3b, k2, n0, r0, r0a, r0b, r0c, r0d, r0e, r0f, r1, r1a, r1b, r1c, r1d, r1e, r1f, r2, r2a, r2b, r2c, r2d, r2e, r2f]
                    · simp [Try.f27, formedI, kindB, size_zero', h0, h1, a, z1, p1, s3, s3a, s3b, k2, n0, r0, r0a, r0b, r0c, r0d, r0e, r0f, r1, r1a, r1b, r1c, r1d, r1e, r1f, r2, r2a, r2b, r2c, r2d, r2e, r2f]
                  · simp [Try.f27, formedI, kindB, size_zero', h0, h1, a, z1, p1, s3, s3a, s3b, k2, n0, r0, r0a, r0b, r0c, r0d, r0e, r0f, r1, r1a, r1b, r1c, r1d, r1e, r1f]
                · simp [Try.f27, formedI, kindB, size_zero', h0, h1, a, z1, p1, s3, s3a, s3b, k2, n0, r0, r0a, r0b, r0c, r0d, r0e, r0f]
              · simp [Try.f27, formedI, kindB, size_zero', h0, h1, a, z1, p1, s3, s3a, s3b, k2, n0]
            · by_cases k3 : x.f2 = 3
              · by_cases z3 : x.f3.size = 0
                · rcases rng x.f5.f0 0 7 8 (by omega) rfl with ⟨r0, r0a, r0b, r0c, r0d, r0e, r0f⟩ | ⟨r0, r0a, r0b, r0c, r0d, r0e, r0f⟩ | ⟨r0, r0a, r0b, r0c, r0d, r0e, r0f⟩
                  · simp [Try.f27, formedI, kindB, size_zero', h0, h1, a, z1, p1, s3, s3a, s3b, k3, z3, r0, r0a, r0b, r0c, r0d, r0e, r0f]
                  · rcases rng x.f5.f1 1 1073741824 1073741825 (by omega) rfl with ⟨r1, r1a, r1b, r1c, r1d, r1e, r1f⟩ | ⟨r1, r1a, r1b, r1c, r1d, r1e, r1f⟩ | ⟨r1, r1a, r1b, r1c, r1d, r1e, r1f⟩
                    · simp [Try.f27, formedI, kindB, size_zero', h0, h1, a, z1, p1, s3, s3a, s3b, k3, z3, r0, r0a, r0b, r0c, r0d, r0e, r0f, r1, r1a, r1b, r1c, r1d, r1e, r1f]
                    · rcases rng x.f5.f2 0 7 8 (by omega) rfl with ⟨r2, r2a, r2b, r2c, r2d, r2e, r2f⟩ | ⟨r2, r2a, r2b, r2c, r2d, r2e, r2f⟩ | ⟨r2, r2a, r2b, r2c, r2d, r2e, r2f⟩
                      · simp [Try.f27, formedI, kindB, size_zero', h0, h1, a, z1, p1, s3, s3a, s3b, k3, z3, r0, r0a, r0b, r0c, r0d, r0e, r0f, r1, r1a, r1b, r1c, r1d, r1e, r1f, r2, r2a, r2b, r2c, r2d, r2e, r2f]
                      · simp [Try.f27, formedI, kindB, size_zero', h0, h1, a, z1, p1, s3, s3a, s3b, k3, z3, r0, r0a, r0b, r0c, r0d, r0e, r0f, r1, r1a, r1b, r1c, r1d, r1e, r1f, r2, r2a, r2b, r2c, r2d, r2e, r2f]
                      · simp [Try.f27, formedI, kindB, size_zero', h0, h1, a, z1, p1, s3, s3a, s3b, k3, z3, r0, r0a, r0b, r0c, r0d, r0e, r0f, r1, r1a, r1b, r1c, r1d, r1e, r1f, r2, r2a, r2b, r2c, r2d, r2e, r2f]
                    · simp [Try.f27, formedI, kindB, size_zero', h0, h1, a, z1, p1, s3, s3a, s3b, k3, z3, r0, r0a, r0b, r0c, r0d, r0e, r0f, r1, r1a, r1b, r1c, r1d, r1e, r1f]
                  · simp [Try.f27, formedI, kindB, size_zero', h0, h1, a, z1, p1, s3, s3a, s3b, k3, z3, r0, r0a, r0b, r0c, r0d, r0e, r0f]
                · simp [Try.f27, formedI, kindB, size_zero', h0, h1, a, z1, p1, s3, s3a, s3b, k3, z3]
              · simp [Try.f27, formedI, kindB, size_zero', h0, h1, a, z1, p1, s3, s3a, s3b, k1, k2, k3]
        · obtain ⟨s3a, s3b⟩ := size_gt _ s3
          simp [Try.f27, formedI, kindB, size_zero', h0, h1, a, z1, p1, s3, s3a, s3b]
theorem rformed (x : Item) (b0 : x.f0.size ≤ 9223372036854775807) (b1 : x.f1.size ≤ 9223372036854775807) : A.fn 28 [ag (encI x)] [] = some (.one (bv (formedI x)), []) := by
  have h0 := rkey x.f0 b0
  have h1 := rprefix x.f1 b1
  rw [fn_run hL Try.func28 rfl L28 (by rfl) rfl rfl rfl (by decide)]
  simp only [bv] at h0 h1
  rcases rng x.f5.f0 0 7 8 (by omega) rfl with ⟨r0, r0a, r0b, r0c, r0d, r0e, r0f⟩ | ⟨r0, r0a, r0b, r0c, r0d, r0e, r0f⟩ | ⟨r0, r0a, r0b, r0c, r0d, r0e, r0f⟩
  · simp [Try.f28, formedI, kindB, r0, r0a, r0b, r0c, r0d, r0e, r0f]
  · rcases rng x.f5.f1 1 1073741824 1073741825 (by omega) rfl with ⟨r1, r1a, r1b, r1c, r1d, r1e, r1f⟩ | ⟨r1, r1a, r1b, r1c, r1d, r1e, r1f⟩ | ⟨r1, r1a, r1b, r1c, r1d, r1e, r1f⟩
    · simp [Try.f28, formedI, kindB, r0, r0a, r0b, r0c, r0d, r0e, r0f, r1, r1a, r1b, r1c, r1d, r1e, r1f]
    · rcases rng x.f5.f2 0 7 8 (by omega) rfl with ⟨r2, r2a, r2b, r2c, r2d, r2e, r2f⟩ | ⟨r2, r2a, r2b, r2c, r2d, r2e, r2f⟩ | ⟨r2, r2a, r2b, r2c, r2d, r2e, r2f⟩
      · simp [Try.f28, formedI, kindB, r0, r0a, r0b, r0c, r0d, r0e, r0f, r1, r1a, r1b, r1c, r1d, r1e, r1f, r2, r2a, r2b, r2c, r2d, r2e, r2f]
      · cases a : keyB x.f0
        · rw [a] at h0
          simp [Try.f28, formedI, kindB, r0, r0a, r0b, r0c, r0d, r0e, r0f, r1, r1a, r1b, r1c, r1d, r1e, r1f, r2, r2a, r2b, r2c, r2d, r2e, r2f, h0, a]
        · rw [a] at h0
          cases p1 : pfx x.f1
          · rw [p1] at h1
            simp [Try.f28, formedI, kindB, r0, r0a, r0b, r0c, r0d, r0e, r0f, r1, r1a, r1b, r1c, r1d, r1e, r1f, r2, r2a, r2b, r2c, r2d, r2e, r2f, h0, h1, a, p1]
          · rw [p1] at h1
            by_cases s3 : x.f3.size ≤ 32
            · obtain ⟨s3a, s3b⟩ := size_le _ s3
              by_cases k1 : x.f2 = 1
              · by_cases n0 : x.f4 = 0
                · simp [Try.f28, formedI, kindB, r0, r0a, r0b, r0c, r0d, r0e, r0f, r1, r1a, r1b, r1c, r1d, r1e, r1f, r2, r2a, r2b, r2c, r2d, r2e, r2f, h0, h1, a, p1, s3, s3a, s3b, k1, n0]
                · simp [Try.f28, formedI, kindB, r0, r0a, r0b, r0c, r0d, r0e, r0f, r1, r1a, r1b, r1c, r1d, r1e, r1f, r2, r2a, r2b, r2c, r2d, r2e, r2f, h0, h1, a, p1, s3, s3a, s3b, k1, n0]
              · by_cases k2 : x.f2 = 2
                · by_cases n0 : x.f4 = 0
                  · simp [Try.f28, formedI, kindB, r0, r0a, r0b, r0c, r0d, r0e, r0f, r1, r1a, r1b, r1c, r1d, r1e, r1f, r2, r2a, r2b, r2c, r2d, r2e, r2f, h0, h1, a, p1, s3, s3a, s3b, k2, n0]
                  · simp [Try.f28, formedI, kindB, r0, r0a, r0b, r0c, r0d, r0e, r0f, r1, r1a, r1b, r1c, r1d, r1e, r1f, r2, r2a, r2b, r2c, r2d, r2e, r2f, h0, h1, a, p1, s3, s3a, s3b, k2, n0]
                · by_cases k3 : x.f2 = 3
                  · by_cases z3 : x.f3.size = 0
                    · simp [Try.f28, formedI, kindB, r0, r0a, r0b, r0c, r0d, r0e, r0f, r1, r1a, r1b, r1c, r1d, r1e, r1f, r2, r2a, r2b, r2c, r2d, r2e, r2f, h0, h1, a, p1, s3, s3a, s3b, k3, z3]
                    · simp [Try.f28, formedI, kindB, r0, r0a, r0b, r0c, r0d, r0e, r0f, r1, r1a, r1b, r1c, r1d, r1e, r1f, r2, r2a, r2b, r2c, r2d, r2e, r2f, h0, h1, a, p1, s3, s3a, s3b, k3, z3]
                  · simp [Try.f28, formedI, kindB, r0, r0a, r0b, r0c, r0d, r0e, r0f, r1, r1a, r1b, r1c, r1d, r1e, r1f, r2, r2a, r2b, r2c, r2d, r2e, r2f, h0, h1, a, p1, s3, s3a, s3b, k1, k2, k3]
            · obtain ⟨s3a, s3b⟩ := size_gt _ s3
              simp [Try.f28, formedI, kindB, r0, r0a, r0b, r0c, r0d, r0e, r0f, r1, r1a, r1b, r1c, r1d, r1e, r1f, r2, r2a, r2b, r2c, r2d, r2e, r2f, h0, h1, a, p1, s3, s3a, s3b]
      · simp [Try.f28, formedI, kindB, r0, r0a, r0b, r0c, r0d, r0e, r0f, r1, r1a, r1b, r1c, r1d, r1e, r1f, r2, r2a, r2b, r2c, r2d, r2e, r2f]
    · simp [Try.f28, formedI, kindB, r0, r0a, r0b, r0c, r0d, r0e, r0f, r1, r1a, r1b, r1c, r1d, r1e, r1f]
  · simp [Try.f28, formedI, kindB, r0, r0a, r0b, r0c, r0d, r0e, r0f]
end Go.E2.S
