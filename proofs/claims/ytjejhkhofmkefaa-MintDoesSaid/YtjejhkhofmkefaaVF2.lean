/- Lists held against each other, looked at, copied (2). -/
import Derived.Test.YtjejhkhofmkefaaVF1
namespace Go.E2.S
open Go Go.E2 Go.RowKit Go.Proofs
set_option linter.unusedVariables false
set_option linter.unusedSimpArgs false
set_option maxHeartbeats 1000000
set_option maxRecDepth 10000
theorem drop_all {α : Type} (l : List α) (p : α → Bool) (i : Nat) (h : i < l.length) : (l.drop i).all p = (p l[i] && (l.drop (i + 1)).all p) := by
  rw [List.drop_eq_getElem_cons h, List.all_cons]
def shortI (x : Item) : Bool := decide (x.f0.size ≤ 300) && decide (x.f1.size ≤ 300) && decide (x.f3.size ≤ 300)
def shortL (l : List Item) : Bool := decide (l.length ≤ 60) && l.all shortI
def shortS (l : List ByteArray) : Bool := decide (l.length ≤ 60) && l.all fun x => decide (x.size ≤ 200)
theorem short09_loop (l : List Item) (ha : l.length < 1000000000) (n : Nat) : ∀ i : Nat, l.length = i + n →
    A.lp 14 0 (hd14_0 [pv (lI l), iv i] []) = some (if (l.drop i).all shortI = true then (.exit 0, ex14_0 [nov] []) else (.ret, ex14_0 [bv false] [])) := by
  induction n with
  | zero =>
    intro i hi
    rw [lp_run hL Try.func14 rfl (by rfl) 0 rfl]
    obtain rfl : i = l.length := by omega
    simp
  | succ n ih =>
    intro i hi
    have h1 : i < l.length := by omega
    rw [lp_run hL Try.func14 rfl (by rfl) 0 rfl]
    have e := drop_all l shortI i h1
    have := ih (i + 1) (by omega)
    by_cases c : shortI l[i] = true
    · have c' := c
      simp only [shortI, Bool.and_eq_true, decide_eq_true_eq] at c'
      obtain ⟨⟨c1, c2⟩, c3⟩ := c'
      have d1 : ¬ (300 : Int) < l[i].f0.size := by omega
      have d2 : ¬ (300 : Int) < l[i].f1.size := by omega
      have d3 : ¬ (300 : Int) < l[i].f3.size := by omega
      simp [h1, c, e, d1, d2, d3] at this ⊢
      simp (disch := omega) only [wr]
      exact this
    · rw [Bool.not_eq_true] at c
      by_cases c1 : (300 : Int) < l[i].f0.size
      · simp [h1, e, c, c1]
      · by_cases c2 : (300 : Int) < l[i].f1.size
        · simp [h1, e, c, c1, c2]
        · have c3 : (300 : Int) < l[i].f3.size := by
            simp only [shortI, Bool.and_eq_false_iff, decide_eq_false_iff_not] at c
            omega
          simp [h1, e, c, c1, c2, c3]
theorem short09 (l : List Item) : A.fn 14 [pv (lI l)] [] = some (.one (bv (shortL l)), []) := by
  rw [fn_run hL Try.func14 rfl L14 (by rfl) rfl rfl rfl (by decide)]
  by_cases hl : l.length ≤ 60
  · have := short09_loop l (by omega) l.length 0 (by omega)
    have d : ¬ (60 : Int) < l.length := by omega
    by_cases h : l.all shortI = true
    · simp [Try.f14, hl, h, d, shortL, -List.all_eq_true] at this ⊢
      simp [this]
    · rw [Bool.not_eq_true] at h
      simp [Try.f14, hl, h, d, shortL, -List.all_eq_true] at this ⊢
      simp [this]
  · have d : (60 : Int) < l.length := by omega
    simp [Try.f14, hl, d, shortL]
theorem short08_loop (l : List ByteArray) (ha : l.length < 1000000000) (n : Nat) : ∀ i : Nat, l.length = i + n →
    A.lp 15 0 (hd15_0 [pv (lS l), iv i] []) = some (if ((l.drop i).all fun x => decide (x.size ≤ 200)) = true then (.exit 0, ex15_0 [nov] []) else (.ret, ex15_0 [bv false] [])) := by
  induction n with
  | zero =>
    intro i hi
    rw [lp_run hL Try.func15 rfl (by rfl) 0 rfl]
    obtain rfl : i = l.length := by omega
    simp
  | succ n ih =>
    intro i hi
    have h1 : i < l.length := by omega
    rw [lp_run hL Try.func15 rfl (by rfl) 0 rfl]
    have e := drop_all l (fun x => decide (x.size ≤ 200)) i h1
    have := ih (i + 1) (by omega)
    by_cases c : l[i].size ≤ 200
    · have d : ¬ (200 : Int) < l[i].size := by omega
      simp [h1, c, e, d, -List.all_eq_true] at this ⊢
      simp (disch := omega) only [wr]
      exact this
    · have d : (200 : Int) < l[i].size := by omega
      simp [h1, e, c, d, -List.all_eq_true]
theorem short08 (l : List ByteArray) : A.fn 15 [pv (lS l)] [] = some (.one (bv (shortS l)), []) := by
  rw [fn_run hL Try.func15 rfl L15 (by rfl) rfl rfl rfl (by decide)]
  by_cases hl : l.length ≤ 60
  · have := short08_loop l (by omega) l.length 0 (by omega)
    have d : ¬ (60 : Int) < l.length := by omega
    cases h : l.all fun x => decide (x.size ≤ 200)
    · simp [Try.f15, hl, h, d, shortS, -List.all_eq_true] at this ⊢
      simp [this]
    · simp [Try.f15, hl, h, d, shortS, -List.all_eq_true] at this ⊢
      simp [this]
  · have d : (60 : Int) < l.length := by omega
    simp [Try.f15, hl, d, shortS]
theorem equal_loop (a b : List ByteArray) (hl : a.length = b.length) (ha : a.length < 1000000000) (n : Nat) : ∀ i : Nat, a.length = i + n →
    A.lp 65 0 (hd65_0 [pv (lS a), pv (lS b), iv a.length, iv i] []) = some (if a.drop i = b.drop i then (.exit 0, ex65_0 [nov] []) else (.ret, ex65_0 [bv false] [])) := by
  induction n with
  | zero =>
    intro i hi
    rw [lp_run hL Try.func65 rfl (by rfl) 0 rfl]
    rw [List.drop_of_length_le (by omega), List.drop_of_length_le (by omega)]
    obtain rfl : i = a.length := by omega
    simp
  | succ n ih =>
    intro i hi
    have h1 : i < a.length := by omega
    have h2 : i < b.length := by omega
    rw [lp_run hL Try.func65 rfl (by rfl) 0 rfl]
    have e := drop_eq a b i h1 h2
    have := ih (i + 1) (by omega)
    by_cases h : a[i] = b[i]
    · simp [h1, h2, h, e] at this ⊢
      simp (disch := omega) only [wr]
      exact this
    · simp [h1, h2, h, e]
theorem equal (a b : List ByteArray) (ha : a.length < 1000000000) : A.fn 65 [pv (lS a), pv (lS b)] [] = some (.one (bv (decide (a = b))), []) := by
  rw [fn_run hL Try.func65 rfl L65 (by rfl) rfl rfl rfl (by decide)]
  by_cases hl : a.length = b.length
  · have := equal_loop a b hl ha a.length 0 (by omega)
    by_cases h : a = b
    · simp [Try.f65, hl, h] at this ⊢
      simp [this]
    · simp [Try.f65, hl, h] at this ⊢
      simp [this]
  · have h : a ≠ b := fun e => hl (by rw [e])
    have hl' : ¬ (a.length : Int) = b.length := by omega
    simp [Try.f65, hl, hl', h]
end Go.E2.S
