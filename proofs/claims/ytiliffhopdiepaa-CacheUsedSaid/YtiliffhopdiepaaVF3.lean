/- Lists held against each other, looked at, copied (3). -/
import Derived.Test.YtiliffhopdiepaaVF2
namespace Go.E2.S
open Go Go.E2 Go.RowKit Go.Proofs
set_option linter.unusedVariables false
set_option linter.unusedSimpArgs false
set_option maxHeartbeats 1000000
set_option maxRecDepth 10000
theorem copy09 (l : List Item) (hl : l.length < 1000000000) : A.fn 12 [pv (lI l)] [] = some (.one (.at (.row pinN 0)), [some (.row true 8 (l.map encI))]) := by
  rw [fn_run hL Try.func12 rfl L12 (by rfl) rfl rfl rfl (by decide)]
  have h : l.length * 89 ≤ 70368744177664 := by omega
  simp [Try.f12, h]
theorem item_ext (a b : Item) : (a.f0 = b.f0 ∧ a.f1 = b.f1 ∧ a.f2 = b.f2 ∧ a.f3 = b.f3 ∧ a.f4 = b.f4 ∧ a.f5.f0 = b.f5.f0 ∧ a.f5.f1 = b.f5.f1 ∧ a.f5.f2 = b.f5.f2) ↔ a = b := by
  obtain ⟨a0, a1, a2, a3, a4, a5, a6, a7⟩ := a
  obtain ⟨b0, b1, b2, b3, b4, b5, b6, b7⟩ := b
  simp
theorem item_ne (a b : Item) : (!decide (a.f0 = b.f0) || (!decide (a.f1 = b.f1) || (!decide (a.f2 = b.f2) || (!decide (a.f3 = b.f3) || (!decide (a.f4 = b.f4) || (!decide (a.f5.f0 = b.f5.f0) || (!decide (a.f5.f1 = b.f5.f1) || !decide (a.f5.f2 = b.f5.f2)))))))) = !decide (a = b) := by
  simp only [← item_ext, Bool.decide_and, Bool.not_and]
theorem same09_loop (a b : List Item) (hl : a.length = b.length) (ha : a.length < 1000000000) (n : Nat) : ∀ i : Nat, a.length = i + n →
    A.lp 17 0 (hd17_0 [pv (lI a), pv (lI b), iv i] []) = some (if a.drop i = b.drop i then (.exit 0, ex17_0 [nov] []) else (.ret, ex17_0 [bv false] [])) := by
  induction n with
  | zero =>
    intro i hi
    rw [lp_run hL Try.func17 rfl (by rfl) 0 rfl]
    rw [List.drop_of_length_le (by omega), List.drop_of_length_le (by omega)]
    obtain rfl : i = a.length := by omega
    simp
  | succ n ih =>
    intro i hi
    have h1 : i < a.length := by omega
    have h2 : i < b.length := by omega
    rw [lp_run hL Try.func17 rfl (by rfl) 0 rfl]
    have e := drop_eq a b i h1 h2
    have := ih (i + 1) (by omega)
    by_cases h : a[i] = b[i]
    · simp [h1, h2, h, e, item_ne] at this ⊢
      simp (disch := omega) only [wr]
      exact this
    · simp [h1, h2, h, e, item_ne]
theorem same09 (a b : List Item) (ha : a.length < 1000000000) : A.fn 17 [pv (lI a), pv (lI b)] [] = some (.one (bv (decide (a = b))), []) := by
  rw [fn_run hL Try.func17 rfl L17 (by rfl) rfl rfl rfl (by decide)]
  by_cases hl : a.length = b.length
  · have := same09_loop a b hl ha a.length 0 (by omega)
    by_cases h : a = b
    · simp [Try.f17, hl, h] at this ⊢
      simp [this]
    · simp [Try.f17, hl, h] at this ⊢
      simp [this]
  · have h : a ≠ b := fun e => hl (by rw [e])
    have hl' : ¬ (a.length : Int) = b.length := by omega
    simp [Try.f17, hl, hl', h]
theorem tf (p : Prop) : p = True ∨ p = False := by by_cases h : p <;> simp [h]
def emptyV : Val := ⟨[], [], 0, false⟩
end Go.E2.S
