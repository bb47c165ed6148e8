/- Lists held against each other, looked at, copied (2). -/
import Derived.Test.YtiliffhopdiepaaVF1
namespace Go.E2.S
open Go Go.E2 Go.RowKit Go.Proofs
set_option linter.unusedVariables false
set_option linter.unusedSimpArgs false
set_option maxHeartbeats 1000000
set_option maxRecDepth 10000
theorem drop_all {α : Type} (l : List α) (p : α → Bool) (i : Nat) (h : i < l.length) : (l.drop i).all p = (p l[i] && (l.drop (i + 1)).all p) := by
  rw [List.drop_eq_getElem_cons h, List.all_cons]
def shortI (x : Item) : Bool := decide (x.f0.size ≤ 300) && decide (x.f1.size ≤ 300) && decide (x.f3.size ≤ 300)
def shortL (l : List Item) : Bool := decide (l.length ≤ 60) && l.all shortI
def shortS (l : List ByteArray) : Bool := decide (l.length ≤ 60) && l.all fun x => decide (x.size ≤ 200)
theorem short09_loop (l : List Item) (ha : l.length < 1000000000) (n : Nat) : ∀ i : Nat, l.length = i + n →
    A.lp 32 0 (hd32_0 [pv (lI l), iv i] []) = some (if (l.drop i).all shortI = true then (.exit 0, ex32_0 [nov] []) else (.ret, ex32_0 [bv false] [])) := by
  induction n with
  | zero =>
    intro i hi
    rw [lp_run hL Try.func32 rfl (by rfl) 0 rfl]
    obtain rfl : i = l.length := by omega
    simp
  | succ n ih =>
    intro i hi
    have h1 : i < l.length := by omega
    rw [lp_run hL Try.func32 rfl (by rfl) 0 rfl]
    have e := drop_all l shortI i h1
    have := ih (i + 1) (by omega)
    by_cases c : shortI l[i] = true
    · have c' := c
      simp only [shortI, Bool.and_eq_true, decide_eq_true_eq] at c'
      obtain ⟨⟨c1, c2⟩, c3⟩ := c'
      have d1 : ¬ (300 : Int) < l[i].f0.size := by omega
      have d2 : ¬ (300 : Int) < l[i].f1.size := by omega
      have d3 : ¬ (300 : Int) < l[i].f3.size := by omega
      simp [h1, c, e, d1, d2, d3] at this ⊢
      simp (disch := omega) only [wr]
      exact this
    · rw [Bool.not_eq_true] at c
      by_cases c1 : (300 : Int) < l[i].f0.size
      · simp [h1, e, c, c1]
      · by_cases c2 : (300 : Int) < l[i].f1.size
        · simp [h1, e, c, c1, c2]
        · have c3 : (300 : Int) < l[i].f3.size := by
            simp only [shortI, Bool.and_eq_false_iff, decide_eq_false_iff_not] at c
            omega
          simp [h1, e, c, c1, c2, c3]
theorem short09 (l : List Item) : A.fn 32 [pv (lI l)] [] = some (.one (bv (shortL l)), []) := by
  rw [fn_run hL Try.func32 rfl L32 (by rfl) rfl rfl rfl (by decide)]
  by_cases hl : l.length ≤ 60
  · have := short09_loop l (by omega) l.length 0 (by omega)
    have d : ¬ (60 : Int) < l.length := by omega
    by_cases h : l.all shortI = true
    · simp [Try.f32, hl, h, d, shortL, -List.all_eq_true] at this ⊢
      simp [this]
    · rw [Bool.not_eq_true] at h
      simp [Try.f32, hl, h, d, shortL, -List.all_eq_true] at this ⊢
      simp [this]
  · have d : (60 : Int) < l.length := by omega
    simp [Try.f32, hl, d, shortL]
theorem short08_loop (l : List ByteArray) (ha : l.length < 1000000000) (n : Nat) : ∀ i : Nat, l.length = i + n →
    A.lp 33 0 (hd33_0 [pv (lS l), iv i] []) = some (if ((l.drop i).all fun x => decide (x.size ≤ 200)) = true then (.exit 0, ex33_0 [nov] []) else (.ret, ex33_0 [bv false] [])) := by
  induction n with
  | zero =>
    intro i hi
    rw [lp_run hL Try.func33 rfl (by rfl) 0 rfl]
    obtain rfl : i = l.length := by omega
    simp
  | succ n ih =>
    intro i hi
    have h1 : i < l.length := by omega
    rw [lp_run hL Try.func33 rfl (by rfl) 0 rfl]
    have e := drop_all l (fun x => decide (x.size ≤ 200)) i h1
    have := ih (i + 1) (by omega)
    by_cases c : l[i].size ≤ 200
    · have d : ¬ (200 : Int) < l[i].size := by omega
      simp [h1, c, e, d, -List.all_eq_true] at this ⊢
      simp (disch := omega) only [wr]
      exact this
    · have d : (200 : Int) < l[i].size := by omega
      simp [h1, e, c, d, -List.all_eq_true]
theorem short08 (l : List ByteArray) : A.fn 33 [pv (lS l)] [] = some (.one (bv (shortS l)), []) := by
  rw [fn_run hL Try.func33 rfl L33 (by rfl) rfl rfl rfl (by decide)]
  by_cases hl : l.length ≤ 60
  · have := short08_loop l (by omega) l.length 0 (by omega)
    have d : ¬ (60 : Int) < l.length := by omega
    cases h : l.all fun x => decide (x.size ≤ 200)
    · simp [Try.f33, hl, h, d, shortS, -List.all_eq_true] at this ⊢
      simp [this]
    · simp [Try.f33, hl, h, d, shortS, -List.all_eq_true] at this ⊢
      simp [this]
  · have d : (60 : Int) < l.length := by omega
    simp [Try.f33, hl, d, shortS]
end Go.E2.S
