/- Lists held against each other, looked at, copied. -/
import Derived.Test.YtiliffhopdiepaaSEnv
import Derived.Test.YtiliffhopdiepaaE11
namespace Go.E2.S
open Go Go.E2 Go.RowKit Go.Proofs
set_option linter.unusedVariables false
set_option linter.unusedSimpArgs false
set_option maxHeartbeats 1000000
set_option maxRecDepth 10000
/-! ### butteryref08.Same -/
theorem drop_eq {α : Type} (a b : List α) (i : Nat) (h1 : i < a.length) (h2 : i < b.length) : (a.drop i = b.drop i) = (a[i] = b[i] ∧ a.drop (i + 1) = b.drop (i + 1)) := by
  rw [List.drop_eq_getElem_cons h1, List.drop_eq_getElem_cons h2, List.cons.injEq]
theorem same08_loop (a b : List ByteArray) (hl : a.length = b.length) (ha : a.length < 1000000000) (n : Nat) : ∀ i : Nat, a.length = i + n →
    A.lp 13 0 (hd13_0 [pv (lS a), pv (lS b), iv i] []) = some (if a.drop i = b.drop i then (.exit 0, ex13_0 [nov] []) else (.ret, ex13_0 [bv false] [])) := by
  induction n with
  | zero =>
    intro i hi
    rw [lp_run hL Try.func13 rfl (by rfl) 0 rfl, List.drop_of_length_le (by omega), List.drop_of_length_le (by omega)]
    obtain rfl : i = a.length := by omega
    simp
  | succ n ih =>
    intro i hi
    have h1 : i < a.length := by omega
    have h2 : i < b.length := by omega
    rw [lp_run hL Try.func13 rfl (by rfl) 0 rfl]
    have e := drop_eq a b i h1 h2
    have := ih (i + 1) (by omega)
    by_cases h : a[i] = b[i]
    · simp [h1, h2, h, e] at this ⊢
      simp (disch := omega) only [wr]
      exact this
    · simp [h1, h2, h, e]
theorem same08 (a b : List ByteArray) (ha : a.length < 1000000000) : A.fn 13 [pv (lS a), pv (lS b)] [] = some (.one (bv (decide (a = b))), []) := by
  rw [fn_run hL Try.func13 rfl L13 (by rfl) rfl rfl rfl (by decide)]
  by_cases hl : a.length = b.length
  · have := same08_loop a b hl ha a.length 0 (by omega)
    by_cases h : a = b
    · simp [Try.f13, hl, h] at this ⊢
      simp [this]
    · simp [Try.f13, hl, h] at this ⊢
      simp [this]
  · have h : a ≠ b := fun e => hl (by rw [e])
    have hl' : ¬ (a.length : Int) = b.length := by omega
    simp [Try.f13, hl, hl', h]
end Go.E2.S
