/- slices.IndexFunc, slices.ContainsFunc over a list that stays: Req. -/
import Derived.Test.YtjejhkhofmkefaaVM3
namespace Go.E2.S
open Go Go.E2 Go.RowKit Go.Proofs
set_option linter.unusedVariables false
set_option linter.unusedSimpArgs false
set_option maxHeartbeats 1000000
set_option maxRecDepth 10000
theorem idxQ_loop (l : List Req) (f : FuncId) (cs : List PV) (p : Req → Bool) (hf : env.fns f = true) (hl : l.length < 1000000000) (hp : ∀ x ∈ l, A.fn f (ag (encQ x) :: cs.map fun p => .at (.pv p)) [] = some (.one (bv (p x)), [])) (n : Nat) : ∀ i : Nat, l.length = i + n →
    A.lp 115 0 (hd115_0 [pv (lQ l), pv (.fn f cs), iv l.length, iv i] []) =
      some (if (l.drop i).any p = true then (.ret, ex115_0 [iv (i + (l.drop i).findIdx p : Nat)] []) else (.exit 0, ex115_0 [nov] [])) := by
  induction n with
  | zero =>
    intro i hi
    rw [lp_run hL Try.func115 rfl (by rfl) 0 rfl]
    obtain rfl : i = l.length := by omega
    simp
  | succ n ih =>
    intro i hi
    have h1 : i < l.length := by omega
    have ih := ih (i + 1) (by omega)
    have hx := hp l[i] (List.getElem_mem h1)
    rw [lp_run hL Try.func115 rfl (by rfl) 0 rfl]
    rw [List.drop_eq_getElem_cons h1, List.any_cons, findI_cons]
    simp only [ag, encQ, List.map_cons, List.map_nil] at hx
    cases c : p l[i] with
    | true =>
      rw [c] at hx
      simp [h1, hx, hf]
    | false =>
      rw [c] at hx
      simp [h1, hx, hf, -List.any_eq_true]
      simp (disch := omega) only [wr]
      refine ih.trans ?_
      cases (l.drop (i + 1)).any p <;> simp [Nat.add_assoc, Nat.add_comm 1]
theorem idxQ (l : List Req) (f : FuncId) (cs : List PV) (p : Req → Bool) (hf : env.fns f = true) (hl : l.length < 1000000000) (hp : ∀ x ∈ l, A.fn f (ag (encQ x) :: cs.map fun p => .at (.pv p)) [] = some (.one (bv (p x)), [])) :
    A.fn 115 [pv (lQ l), pv (.fn f cs)] [] = some (.one (iv (idxL p l)), []) := by
  have h := idxQ_loop l f cs p hf hl hp l.length 0 (by omega)
  rw [fn_run hL Try.func115 rfl L115 (by rfl) rfl rfl rfl (by decide)]
  unfold idxL
  cases c : l.any p with
  | true =>
    simp [Try.f115, c] at h ⊢
    simp [h]
  | false =>
    simp [Try.f115, c] at h ⊢
    simp [h]
theorem hasQ (l : List Req) (f : FuncId) (cs : List PV) (p : Req → Bool) (hf : env.fns f = true) (hl : l.length < 1000000000) (hp : ∀ x ∈ l, A.fn f (ag (encQ x) :: cs.map fun p => .at (.pv p)) [] = some (.one (bv (p x)), [])) :
    A.fn 85 [pv (lQ l), pv (.fn f cs)] [] = some (.one (bv (l.any p)), []) := by
  have h := idxQ l f cs p hf hl hp
  rw [fn_run hL Try.func85 rfl L85 (by rfl) rfl rfl rfl (by decide)]
  unfold idxL at h
  cases c : l.any p with
  | true =>
    rw [c] at h
    simp at h
    simp [Try.f85, h]
  | false =>
    rw [c] at h
    simp at h
    simp [Try.f85, h]
end Go.E2.S
