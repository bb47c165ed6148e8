/- The document's order of items. -/
import Derived.Test.YtjejhkhofmkefaaVI1
import Derived.Test.YtjejhkhofmkefaaVF1
namespace Go.E2.S
open Go Go.E2 Go.RowKit Go.Proofs
set_option linter.unusedVariables false
set_option linter.unusedSimpArgs false
set_option maxHeartbeats 2000000
set_option maxRecDepth 10000
def lessP : List (Int × Int) → Option Bool
  | [] => none
  | p :: l => if p.1 = p.2 then lessP l else some (decide (p.1 < p.2))
def pairsI (a b : Item) : List (Int × Int) := [(a.f2, b.f2), (a.f5.f0, b.f5.f0), (a.f5.f1, b.f5.f1), (a.f5.f2, b.f5.f2)]
abbrev bI (x : Item) : AObj := .blk [.pv (.str x.f0), .pv (.str x.f1), .pv (.int .i64 x.f2), .pv (.str x.f3), .pv (.int .i64 x.f4), .pv (.int .i64 x.f5.f0), .pv (.int .i64 x.f5.f1), .pv (.int .i64 x.f5.f2)]
abbrev encP (p : Int × Int) : List PV := [.int .i64 p.1, .int .i64 p.2]
theorem cmpB_self (a : ByteArray) : cmpB a a = 0 := by
  have := good_cmpB.anti a a
  omega
theorem cmpZ_self (a : Int) : cmpZ a a = 0 := by
  have := good_cmpZ.anti a a
  omega
theorem or_B (a b : ByteArray) (l : List Int) : decide (orZ (cmpB a b :: l) < 0) = if a = b then decide (orZ l < 0) else decide (bl a < bl b) := by
  unfold orZ
  by_cases h : a = b
  · subst h
    rw [if_pos (cmpB_self a), if_pos rfl]
    cases l <;> rfl
  · rw [if_neg (fun e => h (cmpB_zero a b e)), if_neg h]
    simp [cmpB_neg]
theorem cmpZ_neg (a b : Int) : cmpZ a b < 0 ↔ a < b := by
  unfold cmpZ
  split
  · simp; omega
  · split <;> simp <;> omega
theorem or_Z (a b : Int) (l : List Int) : decide (orZ (cmpZ a b :: l) < 0) = if a = b then decide (orZ l < 0) else decide (a < b) := by
  unfold orZ
  by_cases h : a = b
  · subst h
    rw [if_pos (cmpZ_self a), if_pos rfl]
    cases l <;> rfl
  · rw [if_neg (fun e => h (cmpZ_zero a b e)), if_neg h]
    simp [cmpZ_neg]
def lessI (a b : Item) : Bool := if a.f0 = b.f0 then (if a.f1 = b.f1 then (match lessP (pairsI a b) with
  | some r => r
  | none => if a.f3 = b.f3 then decide (a.f4 < b.f4) else decide (bl a.f3 < bl b.f3)) else decide (bl a.f1 < bl b.f1)) else decide (bl a.f0 < bl b.f0)
theorem lessI_eq (a b : Item) : lessI a b = decide (cmpI a b < 0) := by
  unfold lessI cmpI pairsI
  rw [or_B, or_B, or_Z, or_Z, or_Z, or_Z, or_B, or_Z]
  have e : decide (orZ [] < 0) = false := by decide
  rw [e]
  simp only [lessP]
  by_cases h0 : a.f0 = b.f0
  · rw [if_pos h0, if_pos h0]
    by_cases h1 : a.f1 = b.f1
    · rw [if_pos h1, if_pos h1]
      by_cases h2 : a.f2 = b.f2
      · rw [if_pos h2, if_pos h2]
        by_cases h3 : a.f5.f0 = b.f5.f0
        · rw [if_pos h3, if_pos h3]
          by_cases h4 : a.f5.f1 = b.f5.f1
          · rw [if_pos h4, if_pos h4]
            by_cases h5 : a.f5.f2 = b.f5.f2
            · rw [if_pos h5, if_pos h5]
              dsimp only
              by_cases h6 : a.f3 = b.f3
              · rw [if_pos h6, if_pos h6]
                by_cases h7 : a.f4 = b.f4
                · rw [if_pos h7, h7]; simp
                · rw [if_neg h7]
              · rw [if_neg h6, if_neg h6]
            · rw [if_neg h5, if_neg h5]
          · rw [if_neg h4, if_neg h4]
        · rw [if_neg h3, if_neg h3]
      · rw [if_neg h2, if_neg h2]
    · rw [if_neg h1, if_neg h1]
  · rw [if_neg h0, if_neg h0]
theorem less_loop (a b : Item) (ps : List (Int × Int)) (hl : ps.length < 1000) (n : Nat) : ∀ i : Nat, ps.length = i + n →
    A.lp 42 0 (hd42_0 [.at (.ptr 2000 0 0), .at (.ptr 2001 0 0), .at (.row 2002 0), iv ps.length, iv i] [(2000, 0, some (bI a)), (2001, 0, some (bI b)), (2002, 0, some (.row true 2 (ps.map encP)))]) =
      some (match lessP (ps.drop i) with
        | none => (.exit 0, ex42_0 [.at (.ptr 2000 0 0), .at (.ptr 2001 0 0), nov] [(2000, 0, some (bI a)), (2001, 0, some (bI b))])
        | some r => (.ret, ex42_0 [.at (.ptr 2000 0 0), .at (.ptr 2001 0 0), bv r] [(2000, 0, some (bI a)), (2001, 0, some (bI b))])) := by
  induction n with
  | zero =>
    intro i hi
    rw [lp_run hL Try.func42 rfl (by rfl) 0 rfl]
    obtain rfl : i = ps.length := by omega
    simp [lessP]
  | succ n ih =>
    intro i hi
    have h1 : i < ps.length := by omega
    have ih := ih (i + 1) (by omega)
    rw [List.drop_eq_getElem_cons h1, lessP]
    rw [lp_run hL Try.func42 rfl (by rfl) 0 rfl]
    by_cases c : ps[i].1 = ps[i].2
    · rw [if_pos c]
      simp [h1, c]
      simp (disch := omega) only [wr]
      exact ih
    · rw [if_neg c]
      simp [h1, c]
theorem rless (a b : Item) : A.fn 42 [ag (encI a), ag (encI b)] [] = some (.one (bv (decide (cmpI a b < 0))), []) := by
  rw [← lessI_eq]
  have h := less_loop a b (pairsI a b) (by simp [pairsI]) 4 0 (by simp [pairsI])
  unfold lessI
  rw [fn_run hL Try.func42 rfl L42 (by rfl) rfl rfl rfl (by decide)]
  by_cases c0 : a.f0 = b.f0
  · rw [if_pos c0]
    by_cases c1 : a.f1 = b.f1
    · rw [if_pos c1]
      cases q : lessP (pairsI a b) with
      | some r =>
        rw [List.drop_zero, q] at h
        simp [pairsI, bI, c0, c1] at h
        simp [Try.f42, c0, c1, h]
      | none =>
        rw [List.drop_zero, q] at h
        by_cases c3 : a.f3 = b.f3
        · simp [pairsI, bI, c0, c1, c3] at h
          simp [Try.f42, c0, c1, c3, h]
        · simp [pairsI, bI, c0, c1, c3] at h
          simp [Try.f42, c0, c1, c3, h]
    · rw [if_neg c1]
      simp [Try.f42, c0, c1]
  · rw [if_neg c0]
    simp [Try.f42, c0]
end Go.E2.S
