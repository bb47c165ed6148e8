/- Totals. -/
import Derived.Test.YtjejhkhofmkefaaVF4
namespace Go.E2.S
open Go Go.E2 Go.RowKit Go.Proofs
open Go.E2.Lib (sortB compB)
set_option linter.unusedVariables false
set_option linter.unusedSimpArgs false
set_option maxHeartbeats 1000000
set_option maxRecDepth 10000
theorem total_loop (l : List Int) (hl : l.length ≤ 1073741824) (hw : ∀ x ∈ l, I64 x) (d : Nat) :
    ∀ (i : Nat) (hi lo : Int), i + d = l.length → hi * 4294967296 + lo = (l.take i).sum → -2147483648 * (i : Int) ≤ hi → hi ≤ 2147483648 * (i : Int) → 0 ≤ lo → lo ≤ 4294967295 * (i : Int) →
      ∃ hi' lo', hi' * 4294967296 + lo' = l.sum ∧ -2147483648 * (l.length : Int) ≤ hi' ∧ hi' ≤ 2147483648 * (l.length : Int) ∧ 0 ≤ lo' ∧ lo' ≤ 4294967295 * (l.length : Int) ∧
      A.lp 62 0 (hd62_0 [iv hi, iv lo, pv (lZ l), iv l.length, iv i] []) = some (.exit 0, ex62_0 [iv hi', iv lo'] []) := by
  induction d with
  | zero =>
    intro i hi lo hd hs h1 h2 h3 h4
    obtain rfl : i = l.length := by omega
    rw [List.take_length] at hs
    refine ⟨hi, lo, hs, h1, h2, h3, h4, ?_⟩
    rw [lp_run hL Try.func62 rfl (by rfl) 0 rfl]
    simp
  | succ d ih =>
    intro i hi lo hd hs h1 h2 h3 h4
    have hlt : i < l.length := by omega
    have hx : I64 l[i] := hw _ (List.getElem_mem hlt)
    unfold I64 at hx
    obtain ⟨hi', lo', g1, g2, g3, g4, g5, g6⟩ := ih (i + 1) (hi + l[i] / 4294967296) (lo + l[i] % 4294967296) (by omega) (by rw [sum_take l i hlt, ← hs]; omega) (by omega) (by omega) (by omega) (by omega)
    refine ⟨hi', lo', g1, g2, g3, g4, g5, ?_⟩
    have w1 : IntKind.i64.wrap (hi + l[i] / 4294967296) = hi + l[i] / 4294967296 := wr _ (by omega) (by omega)
    have w2 : IntKind.i64.wrap (lo + l[i] % 4294967296) = lo + l[i] % 4294967296 := wr _ (by omega) (by omega)
    have w3 : IntKind.i64.wrap ((i : Int) + 1) = i + 1 := wr _ (by omega) (by omega)
    rw [lp_run hL Try.func62 rfl (by rfl) 0 rfl]
    simp [hlt, fdiv32, and_mask _ hx.1 hx.2, w1, w2, w3] at g6 ⊢
    exact g6
theorem total (l : List Int) (hl : l.length ≤ 1073741824) (hw : ∀ x ∈ l, I64 x) : A.fn 62 [pv (lZ l)] [] = some (.tup [iv (Go.E2.S.tot l.sum).1, iv (Go.E2.S.tot l.sum).2], []) := by
  obtain ⟨hi, lo, g1, g2, g3, g4, g5, g6⟩ := total_loop l hl hw l.length 0 0 0 (by omega) (by simp) (by omega) (by omega) (by omega) (by omega)
  have hd : ¬ (1073741824 : Int) < l.length := by omega
  have w1 : IntKind.i64.wrap (hi + lo / 4294967296) = hi + lo / 4294967296 := wr _ (by omega) (by omega)
  have m1 := and_mask lo (by omega) (by omega)
  rw [fn_run hL Try.func62 rfl L62 (by rfl) rfl rfl rfl (by decide)]
  unfold Go.E2.S.tot
  by_cases ha : hi + lo / 4294967296 < -2147483648
  · have e : ¬ (-9223372036854775808 ≤ l.sum ∧ l.sum ≤ 9223372036854775807) := by omega
    rw [if_neg e]
    simp [fdiv32, hd] at g6 ⊢
    simp [Try.f62, hd, g6, fdiv32, w1, m1, ha]
  · by_cases hb : 2147483648 ≤ hi + lo / 4294967296
    · have e : ¬ (-9223372036854775808 ≤ l.sum ∧ l.sum ≤ 9223372036854775807) := by omega
      rw [if_neg e]
      simp [fdiv32, hd] at g6 ⊢
      simp [Try.f62, hd, g6, fdiv32, w1, m1, ha, hb]
    · have e : (-9223372036854775808 ≤ l.sum ∧ l.sum ≤ 9223372036854775807) := by omega
      have w2 : IntKind.i64.wrap ((hi + lo / 4294967296) * 4294967296) = (hi + lo / 4294967296) * 4294967296 := wr _ (by omega) (by omega)
      have o1 := or_join (hi + lo / 4294967296) (lo % 4294967296) (by omega) (by omega) (by omega) (by omega)
      have o2 : (hi + lo / 4294967296) * 4294967296 + lo % 4294967296 = l.sum := by omega
      rw [if_pos e]
      simp [fdiv32, hd] at g6 ⊢
      simp [Try.f62, hd, g6, fdiv32, w1, m1, ha, hb, w2, o1, o2]
end Go.E2.S
