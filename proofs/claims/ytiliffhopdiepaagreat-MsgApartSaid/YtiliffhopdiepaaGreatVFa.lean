/- VFa: VF1, VF2, VF3, VLoop. -/
import Derived.Test.YtiliffhopdiepaaGreatSEnv
import Derived.Test.YtiliffhopdiepaaGreatE11
/-! Lists held against each other, looked at, copied. -/
namespace Go.E2.S
open Go Go.E2 Go.RowKit Go.Proofs
set_option linter.unusedVariables false
set_option linter.unusedSimpArgs false
set_option maxHeartbeats 1000000
set_option maxRecDepth 10000
/-! ### butteryref08.Same -/
theorem drop_eq {α : Type} (a b : List α) (i : Nat) (h1 : i < a.length) (h2 : i < b.length) : (a.drop i = b.drop i) = (a[i] = b[i] ∧ a.drop (i + 1) = b.drop (i + 1)) := by
  rw [List.drop_eq_getElem_cons h1, List.drop_eq_getElem_cons h2, List.cons.injEq]
theorem same08_loop (a b : List ByteArray) (hl : a.length = b.length) (ha : a.length < 1000000000) (n : Nat) : ∀ i : Nat, a.length = i + n →
    A.lp 41 0 (hd41_0 [pv (lS a), pv (lS b), iv i] []) = some (if a.drop i = b.drop i then (.exit 0, ex41_0 [nov] []) else (.ret, ex41_0 [bv false] [])) := by
  induction n with
  | zero =>
    intro i hi
    rw [lp_run hL Tryz.func41 rfl (by rfl) 0 rfl, List.drop_of_length_le (by omega), List.drop_of_length_le (by omega)]
    obtain rfl : i = a.length := by omega
    simp
  | succ n ih =>
    intro i hi
    have h1 : i < a.length := by omega
    have h2 : i < b.length := by omega
    rw [lp_run hL Tryz.func41 rfl (by rfl) 0 rfl]
    have e := drop_eq a b i h1 h2
    have := ih (i + 1) (by omega)
    by_cases h : a[i] = b[i]
    · simp [h1, h2, h, e] at this ⊢
      simp (disch := omega) only [wr]
      exact this
    · simp [h1, h2, h, e]
theorem same08 (a b : List ByteArray) (ha : a.length < 1000000000) : A.fn 41 [pv (lS a), pv (lS b)] [] = some (.one (bv (decide (a = b))), []) := by
  rw [fn_run hL Tryz.func41 rfl L41 (by rfl) rfl rfl rfl (by decide)]
  by_cases hl : a.length = b.length
  · have := same08_loop a b hl ha a.length 0 (by omega)
    by_cases h : a = b
    · simp [Tryz.f41, hl, h] at this ⊢
      simp [this]
    · simp [Tryz.f41, hl, h] at this ⊢
      simp [this]
  · have h : a ≠ b := fun e => hl (by rw [e])
    have hl' : ¬ (a.length : Int) = b.length := by omega
    simp [Tryz.f41, hl, hl', h]
end Go.E2.S
/-! Lists held against each other, looked at, copied (2). -/
namespace Go.E2.S
open Go Go.E2 Go.RowKit Go.Proofs
set_option linter.unusedVariables false
set_option linter.unusedSimpArgs false
set_option maxHeartbeats 1000000
set_option maxRecDepth 10000
theorem drop_all {α : Type} (l : List α) (p : α → Bool) (i : Nat) (h : i < l.length) : (l.drop i).all p = (p l[i] && (l.drop (i + 1)).all p) := by
  rw [List.drop_eq_getElem_cons h, List.all_cons]
def shortI (x : Item) : Bool := decide (x.f0.size ≤ 300) && decide (x.f1.size ≤ 300) && decide (x.f3.size ≤ 300)
def shortL (l : List Item) : Bool := decide (l.length ≤ 60) && l.all shortI
def shortS (l : List ByteArray) : Bool := decide (l.length ≤ 60) && l.all fun x => decide (x.size ≤ 200)
theorem short09_loop (l : List Item) (ha : l.length < 1000000000) (n : Nat) : ∀ i : Nat, l.length = i + n →
    A.lp 53 0 (hd53_0 [pv (lI l), iv i] []) = some (if (l.drop i).all shortI = true then (.exit 0, ex53_0 [nov] []) else (.ret, ex53_0 [bv false] [])) := by
  induction n with
  | zero =>
    intro i hi
    rw [lp_run hL Tryz.func53 rfl (by rfl) 0 rfl]
    obtain rfl : i = l.length := by omega
    simp
  | succ n ih =>
    intro i hi
    have h1 : i < l.length := by omega
    rw [lp_run hL Tryz.func53 rfl (by rfl) 0 rfl]
    have e := drop_all l shortI i h1
    have := ih (i + 1) (by omega)
    by_cases c : shortI l[i] = true
    · have c' := c
      simp only [shortI, Bool.and_eq_true, decide_eq_true_eq] at c'
      obtain ⟨⟨c1, c2⟩, c3⟩ := c'
      have d1 : ¬ (300 : Int) < l[i].f0.size := by omega
      have d2 : ¬ (300 : Int) < l[i].f1.size := by omega
      have d3 : ¬ (300 : Int) < l[i].f3.size := by omega
      simp [h1, c, e, d1, d2, d3] at this ⊢
      simp (disch := omega) only [wr]
      exact this
    · rw [Bool.not_eq_true] at c
      by_cases c1 : (300 : Int) < l[i].f0.size
      · simp [h1, e, c, c1]
      · by_cases c2 : (300 : Int) < l[i].f1.size
        · simp [h1, e, c, c1, c2]
        · have c3 : (300 : Int) < l[i].f3.size := by
            simp only [shortI, Bool.and_eq_false_iff, decide_eq_false_iff_not] at c
            omega
          simp [h1, e, c, c1, c2, c3]
theorem short09 (l : List Item) : A.fn 53 [pv (lI l)] [] = some (.one (bv (shortL l)), []) := by
  rw [fn_run hL Tryz.func53 rfl L53 (by rfl) rfl rfl rfl (by decide)]
  by_cases hl : l.length ≤ 60
  · have := short09_loop l (by omega) l.length 0 (by omega)
    have d : ¬ (60 : Int) < l.length := by omega
    by_cases h : l.all shortI = true
    · simp [Tryz.f53, hl, h, d, shortL, -List.all_eq_true] at this ⊢
      simp [this]
    · rw [Bool.not_eq_true] at h
      simp [Tryz.f53, hl, h, d, shortL, -List.all_eq_true] at this ⊢
      simp [this]
  · have d : (60 : Int) < l.length := by omega
    simp [Tryz.f53, hl, d, shortL]
theorem short08_loop (l : List ByteArray) (ha : l.length < 1000000000) (n : Nat) : ∀ i : Nat, l.length = i + n →
    A.lp 52 0 (hd52_0 [pv (lS l), iv i] []) = some (if ((l.drop i).all fun x => decide (x.size ≤ 200)) = true then (.exit 0, ex52_0 [nov] []) else (.ret, ex52_0 [bv false] [])) := by
  induction n with
  | zero =>
    intro i hi
    rw [lp_run hL Tryz.func52 rfl (by rfl) 0 rfl]
    obtain rfl : i = l.length := by omega
    simp
  | succ n ih =>
    intro i hi
    have h1 : i < l.length := by omega
    rw [lp_run hL Tryz.func52 rfl (by rfl) 0 rfl]
    have e := drop_all l (fun x => decide (x.size ≤ 200)) i h1
    have := ih (i + 1) (by omega)
    by_cases c : l[i].size ≤ 200
    · have d : ¬ (200 : Int) < l[i].size := by omega
      simp [h1, c, e, d, -List.all_eq_true] at this ⊢
      simp (disch := omega) only [wr]
      exact this
    · have d : (200 : Int) < l[i].size := by omega
      simp [h1, e, c, d, -List.all_eq_true]
theorem short08 (l : List ByteArray) : A.fn 52 [pv (lS l)] [] = some (.one (bv (shortS l)), []) := by
  rw [fn_run hL Tryz.func52 rfl L52 (by rfl) rfl rfl rfl (by decide)]
  by_cases hl : l.length ≤ 60
  · have := short08_loop l (by omega) l.length 0 (by omega)
    have d : ¬ (60 : Int) < l.length := by omega
    cases h : l.all fun x => decide (x.size ≤ 200)
    · simp [Tryz.f52, hl, h, d, shortS, -List.all_eq_true] at this ⊢
      simp [this]
    · simp [Tryz.f52, hl, h, d, shortS, -List.all_eq_true] at this ⊢
      simp [this]
  · have d : (60 : Int) < l.length := by omega
    simp [Tryz.f52, hl, d, shortS]
theorem equal_loop (a b : List ByteArray) (hl : a.length = b.length) (ha : a.length < 1000000000) (n : Nat) : ∀ i : Nat, a.length = i + n →
    A.lp 125 0 (hd125_0 [pv (lS a), pv (lS b), iv a.length, iv i] []) = some (if a.drop i = b.drop i then (.exit 0, ex125_0 [nov] []) else (.ret, ex125_0 [bv false] [])) := by
  induction n with
  | zero =>
    intro i hi
    rw [lp_run hL Tryz.func125 rfl (by rfl) 0 rfl]
    rw [List.drop_of_length_le (by omega), List.drop_of_length_le (by omega)]
    obtain rfl : i = a.length := by omega
    simp
  | succ n ih =>
    intro i hi
    have h1 : i < a.length := by omega
    have h2 : i < b.length := by omega
    rw [lp_run hL Tryz.func125 rfl (by rfl) 0 rfl]
    have e := drop_eq a b i h1 h2
    have := ih (i + 1) (by omega)
    by_cases h : a[i] = b[i]
    · simp [h1, h2, h, e] at this ⊢
      simp (disch := omega) only [wr]
      exact this
    · simp [h1, h2, h, e]
theorem equal (a b : List ByteArray) (ha : a.length < 1000000000) : A.fn 125 [pv (lS a), pv (lS b)] [] = some (.one (bv (decide (a = b))), []) := by
  rw [fn_run hL Tryz.func125 rfl L125 (by rfl) rfl rfl rfl (by decide)]
  by_cases hl : a.length = b.length
  · have := equal_loop a b hl ha a.length 0 (by omega)
    by_cases h : a = b
    · simp [Tryz.f125, hl, h] at this ⊢
      simp [this]
    · simp [Tryz.f125, hl, h] at this ⊢
      simp [this]
  · have h : a ≠ b := fun e => hl (by rw [e])
    have hl' : ¬ (a.length : Int) = b.length := by omega
    simp [Tryz.f125, hl, hl', h]
end Go.E2.S
/-! Lists held against each other, looked at, copied (3). -/
namespace Go.E2.S
open Go Go.E2 Go.RowKit Go.Proofs
set_option linter.unusedVariables false
set_option linter.unusedSimpArgs false
set_option maxHeartbeats 1000000
set_option maxRecDepth 10000
theorem copy09 (l : List Item) (hl : l.length < 1000000000) : A.fn 247 [pv (lI l)] [] = some (.one (.at (.row pinN 0)), [some (.row true 8 (l.map encI))]) := by
  rw [fn_run hL Tryz.func247 rfl L247 (by rfl) rfl rfl rfl (by decide)]
  have h : l.length * 89 ≤ 70368744177664 := by omega
  simp [Tryz.f247, h]
theorem item_ext (a b : Item) : (a.f0 = b.f0 ∧ a.f1 = b.f1 ∧ a.f2 = b.f2 ∧ a.f3 = b.f3 ∧ a.f4 = b.f4 ∧ a.f5.f0 = b.f5.f0 ∧ a.f5.f1 = b.f5.f1 ∧ a.f5.f2 = b.f5.f2) ↔ a = b := by
  obtain ⟨a0, a1, a2, a3, a4, a5, a6, a7⟩ := a
  obtain ⟨b0, b1, b2, b3, b4, b5, b6, b7⟩ := b
  simp
theorem item_ne (a b : Item) : (!decide (a.f0 = b.f0) || (!decide (a.f1 = b.f1) || (!decide (a.f2 = b.f2) || (!decide (a.f3 = b.f3) || (!decide (a.f4 = b.f4) || (!decide (a.f5.f0 = b.f5.f0) || (!decide (a.f5.f1 = b.f5.f1) || !decide (a.f5.f2 = b.f5.f2)))))))) = !decide (a = b) := by
  simp only [← item_ext, Bool.decide_and, Bool.not_and]
theorem same09_loop (a b : List Item) (hl : a.length = b.length) (ha : a.length < 1000000000) (n : Nat) : ∀ i : Nat, a.length = i + n →
    A.lp 75 0 (hd75_0 [pv (lI a), pv (lI b), iv i] []) = some (if a.drop i = b.drop i then (.exit 0, ex75_0 [nov] []) else (.ret, ex75_0 [bv false] [])) := by
  induction n with
  | zero =>
    intro i hi
    rw [lp_run hL Tryz.func75 rfl (by rfl) 0 rfl]
    rw [List.drop_of_length_le (by omega), List.drop_of_length_le (by omega)]
    obtain rfl : i = a.length := by omega
    simp
  | succ n ih =>
    intro i hi
    have h1 : i < a.length := by omega
    have h2 : i < b.length := by omega
    rw [lp_run hL Tryz.func75 rfl (by rfl) 0 rfl]
    have e := drop_eq a b i h1 h2
    have := ih (i + 1) (by omega)
    by_cases h : a[i] = b[i]
    · simp [h1, h2, h, e, item_ne] at this ⊢
      simp (disch := omega) only [wr]
      exact this
    · simp [h1, h2, h, e, item_ne]
theorem same09 (a b : List Item) (ha : a.length < 1000000000) : A.fn 75 [pv (lI a), pv (lI b)] [] = some (.one (bv (decide (a = b))), []) := by
  rw [fn_run hL Tryz.func75 rfl L75 (by rfl) rfl rfl rfl (by decide)]
  by_cases hl : a.length = b.length
  · have := same09_loop a b hl ha a.length 0 (by omega)
    by_cases h : a = b
    · simp [Tryz.f75, hl, h] at this ⊢
      simp [this]
    · simp [Tryz.f75, hl, h] at this ⊢
      simp [this]
  · have h : a ≠ b := fun e => hl (by rw [e])
    have hl' : ¬ (a.length : Int) = b.length := by omega
    simp [Tryz.f75, hl, hl', h]
theorem tf (p : Prop) : p = True ∨ p = False := by by_cases h : p <;> simp [h]
def emptyV : Val := ⟨[], [], 0, false⟩
end Go.E2.S
/-! Loops over a list, once for all. -/
namespace Go.E2.S
open Go Go.E2 Go.RowKit Go.Proofs
set_option linter.unusedVariables false
set_option linter.unusedSimpArgs false
/-- A loop that goes on where P holds, and leaves with R where it doesn't. -/
theorem lpAll {α : Type} (l : List α) (P : α → Bool) {f : FuncId} {id : Nat} (S : Nat → St) (r R : Option (Exit × St))
    (h : ∀ i (hi : i < l.length), A.lp f id (S i) = if P l[i] = true then A.lp f id (S (i + 1)) else R) (he : A.lp f id (S l.length) = r) :
    A.lp f id (S 0) = if l.all P = true then r else R := by
  have key : ∀ n i, l.length = i + n → A.lp f id (S i) = if (l.drop i).all P = true then r else R := by
    intro n
    induction n with
    | zero =>
      intro i hi
      obtain rfl : i = l.length := by omega
      simp [he]
    | succ n ih =>
      intro i hi
      have hi' : i < l.length := by omega
      rw [h i hi', List.drop_eq_getElem_cons hi', List.all_cons, ih (i + 1) (by omega)]
      cases P l[i] <;> simp
  have := key l.length 0 (by omega)
  rwa [List.drop_zero] at this
theorem lpAllX {α : Type} (l : List α) (P : α → Bool) {f : FuncId} {id : Nat} (S : Nat → St) (r : Option (Exit × St)) (R : Nat → Option (Exit × St))
    (h : ∀ i (hi : i < l.length), A.lp f id (S i) = if P l[i] = true then A.lp f id (S (i + 1)) else R i) (he : A.lp f id (S l.length) = r) :
    (l.all P = true → A.lp f id (S 0) = r) ∧ (l.all P = false → ∃ k, k < l.length ∧ A.lp f id (S 0) = R k) := by
  have key : ∀ n i, l.length = i + n → ((l.drop i).all P = true → A.lp f id (S i) = r) ∧ ((l.drop i).all P = false → ∃ k, k < l.length ∧ A.lp f id (S i) = R k) := by
    intro n
    induction n with
    | zero =>
      intro i hi
      obtain rfl : i = l.length := by omega
      simp [he]
    | succ n ih =>
      intro i hi
      have hi' : i < l.length := by omega
      rw [h i hi', List.drop_eq_getElem_cons hi', List.all_cons]
      have k := ih (i + 1) (by omega)
      cases c : P l[i] with
      | true => simpa using k
      | false => exact ⟨fun h => by simp at h, fun _ => ⟨i, hi', by simp⟩⟩
  have := key l.length 0 (by omega)
  rwa [List.drop_zero] at this
/-- A loop that leaves with R where P holds. -/
theorem lpAny {α : Type} (l : List α) (P : α → Bool) {f : FuncId} {id : Nat} (S : Nat → St) (r R : Option (Exit × St))
    (h : ∀ i (hi : i < l.length), A.lp f id (S i) = if P l[i] = true then R else A.lp f id (S (i + 1))) (he : A.lp f id (S l.length) = r) :
    A.lp f id (S 0) = if l.any P = true then R else r := by
  have key : ∀ n i, l.length = i + n → A.lp f id (S i) = if (l.drop i).any P = true then R else r := by
    intro n
    induction n with
    | zero =>
      intro i hi
      obtain rfl : i = l.length := by omega
      simp [he]
    | succ n ih =>
      intro i hi
      have hi' : i < l.length := by omega
      rw [h i hi', List.drop_eq_getElem_cons hi', List.any_cons, ih (i + 1) (by omega)]
      cases P l[i] <;> simp
  have := key l.length 0 (by omega)
  rwa [List.drop_zero] at this
/-- A loop that changes what it bears, element by element. -/
theorem lpFold {α β : Type} (l : List α) (g : β → α → β) {f : FuncId} {id : Nat} (Inv : Nat → β → Prop) (S : Nat → β → St) (r : β → Option (Exit × St)) (b0 : β) (h0 : Inv 0 b0)
    (h : ∀ i (hi : i < l.length) b, Inv i b → Inv (i + 1) (g b l[i]) ∧ A.lp f id (S i b) = A.lp f id (S (i + 1) (g b l[i]))) (he : ∀ b, Inv l.length b → A.lp f id (S l.length b) = r b) :
    A.lp f id (S 0 b0) = r (l.foldl g b0) := by
  have key : ∀ n i b, l.length = i + n → Inv i b → A.lp f id (S i b) = r ((l.drop i).foldl g b) := by
    intro n
    induction n with
    | zero =>
      intro i b hi hb
      obtain rfl : i = l.length := by omega
      simp [he b hb]
    | succ n ih =>
      intro i b hi hb
      have hi' : i < l.length := by omega
      obtain ⟨k1, k2⟩ := h i hi' b hb
      rw [k2, List.drop_eq_getElem_cons hi', List.foldl_cons, ih (i + 1) _ (by omega) k1]
  have := key l.length 0 b0 (by omega) h0
  rwa [List.drop_zero] at this
/-- What a loop comes to that changes what it bears and leaves with R where P does not hold. -/
def runL {α β γ : Type} (P : β → α → Bool) (g : β → α → β) (R : β → α → γ) (r : β → γ) : List α → β → γ
  | [], b => r b
  | x :: l, b => if P b x = true then runL P g R r l (g b x) else R b x
theorem lpRun {α β : Type} (l : List α) (P : β → α → Bool) (g : β → α → β) {f : FuncId} {id : Nat} (Inv : Nat → β → Prop) (S : Nat → β → St) (R : β → α → Option (Exit × St)) (r : β → Option (Exit × St)) (b0 : β) (h0 : Inv 0 b0)
    (h : ∀ i (hi : i < l.length) b, Inv i b → (P b l[i] = true → Inv (i + 1) (g b l[i])) ∧ A.lp f id (S i b) = if P b l[i] = true then A.lp f id (S (i + 1) (g b l[i])) else R b l[i]) (he : ∀ b, Inv l.length b → A.lp f id (S l.length b) = r b) :
    A.lp f id (S 0 b0) = runL P g R r l b0 := by
  have key : ∀ n i b, l.length = i + n → Inv i b → A.lp f id (S i b) = runL P g R r (l.drop i) b := by
    intro n
    induction n with
    | zero =>
      intro i b hi hb
      obtain rfl : i = l.length := by omega
      simp [he b hb, runL]
    | succ n ih =>
      intro i b hi hb
      have hi' : i < l.length := by omega
      obtain ⟨k1, k2⟩ := h i hi' b hb
      rw [k2, List.drop_eq_getElem_cons hi', runL]
      split
      · rename_i c
        exact ih (i + 1) _ (by omega) (k1 c)
      · rfl
  have := key l.length 0 b0 (by omega) h0
  rwa [List.drop_zero] at this
/-- A loop that never leaves early. -/
theorem lpGo {f : FuncId} {id : Nat} (k : Nat) (S : Nat → St) (r : Option (Exit × St)) (h : ∀ i, i < k → A.lp f id (S i) = A.lp f id (S (i + 1))) (he : A.lp f id (S k) = r) : A.lp f id (S 0) = r := by
  have key : ∀ n i, k = i + n → A.lp f id (S i) = r := by
    intro n
    induction n with
    | zero =>
      intro i hi
      obtain rfl : i = k := by omega
      exact he
    | succ n ih =>
      intro i hi
      rw [h i (by omega)]
      exact ih (i + 1) (by omega)
  exact key k 0 (by omega)
theorem zip_all {α : Type} [DecidableEq α] : ∀ (a b : List α), a.length = b.length → (a.zip b).all (fun p => decide (p.1 = p.2)) = decide (a = b)
  | [], [], h => rfl
  | x :: a, y :: b, h => by
    rw [List.zip_cons_cons, List.all_cons, zip_all a b (by simpa using h)]
    by_cases c : x = y <;> by_cases d : a = b <;> simp [c, d]
theorem zip_len {α : Type} {a b : List α} (h : a.length = b.length) : (a.zip b).length = a.length := by rw [List.length_zip]; omega
/-- A loop that is left once: what is left of the count. -/
theorem lpCount {β : Type} (k : Nat) (g : Nat → β → β) {f : FuncId} {id : Nat} (Inv : Nat → β → Prop) (S : Nat → β → St) (r : β → Option (Exit × St)) (b0 : β) (h0 : Inv 0 b0)
    (h : ∀ i, i < k → ∀ b, Inv i b → Inv (i + 1) (g i b) ∧ A.lp f id (S i b) = A.lp f id (S (i + 1) (g i b))) (he : ∀ b, Inv k b → A.lp f id (S k b) = r b) :
    A.lp f id (S 0 b0) = r ((List.range k).foldl (fun b i => g i b) b0) := by
  have e : (List.range k).length = k := List.length_range
  refine lpFold (List.range k) (fun b i => g i b) Inv S r b0 h0 (fun i hi b hb => ?_) (by rw [e]; exact he)
  rw [e] at hi
  have := h i hi b hb
  simpa using this
end Go.E2.S
