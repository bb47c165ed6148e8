/- slices.IndexFunc, slices.DeleteFunc over a row that is the caller's own, with a function value that answers. -/
import Derived.Test.YtjejhkhofmkefaaVPlainI
import Derived.Test.YtjejhkhofmkefaaVF1
namespace Go.E2.S
open Go Go.E2 Go.RowKit Go.Proofs
set_option linter.unusedVariables false
set_option linter.unusedSimpArgs false
set_option maxHeartbeats 1000000
set_option maxRecDepth 10000
theorem findI_cons {α : Type} (p : α → Bool) (x : α) (l : List α) : (x :: l).findIdx p = if p x = true then 0 else l.findIdx p + 1 := by
  rw [List.findIdx_cons]
  cases p x <;> rfl
abbrev rI (l : List Item) : AObj := .row true 8 (l.map encI)
theorem idxI_loop (l : List Item) (f : FuncId) (cs : List PV) (p : Item → Bool) (hf : env.fns f = true) (hl : l.length < 1000000000) (hp : ∀ x ∈ l, A.fn f (ag (encI x) :: cs.map fun p => .at (.pv p)) [] = some (.one (bv (p x)), [])) (n : Nat) : ∀ i : Nat, l.length = i + n →
    A.lp 108 0 (hd108_0 [.at (.row pinN 0), pv (.fn f cs), iv l.length, iv i] [(pinN, 0, some (rI l))]) =
      some (if (l.drop i).any p = true then (.ret, ex108_0 [iv (i + (l.drop i).findIdx p : Nat)] [(pinN, 0, some (rI l))]) else (.exit 0, ex108_0 [nov] [(pinN, 0, some (rI l))])) := by
  induction n with
  | zero =>
    intro i hi
    rw [lp_run hL Try.func108 rfl (by rfl) 0 rfl]
    obtain rfl : i = l.length := by omega
    simp
  | succ n ih =>
    intro i hi
    have h1 : i < l.length := by omega
    have ih := ih (i + 1) (by omega)
    have hx := hp l[i] (List.getElem_mem h1)
    rw [lp_run hL Try.func108 rfl (by rfl) 0 rfl]
    rw [List.drop_eq_getElem_cons h1, List.any_cons, findI_cons]
    simp only [ag, encI, List.map_cons, List.map_nil] at hx
    cases c : p l[i] with
    | true =>
      rw [c] at hx
      simp [h1, hx, hf]
    | false =>
      rw [c] at hx
      simp [h1, hx, hf, -List.any_eq_true]
      simp (disch := omega) only [wr]
      refine ih.trans ?_
      cases (l.drop (i + 1)).any p <;> simp [Nat.add_assoc, Nat.add_comm 1]
def idxL {α : Type} (p : α → Bool) (l : List α) : Int := if l.any p = true then (l.findIdx p : Nat) else -1
theorem idxI (l : List Item) (f : FuncId) (cs : List PV) (p : Item → Bool) (hf : env.fns f = true) (hl : l.length < 1000000000) (hp : ∀ x ∈ l, A.fn f (ag (encI x) :: cs.map fun p => .at (.pv p)) [] = some (.one (bv (p x)), [])) :
    A.fn 108 [.at (.row pinN 0), pv (.fn f cs)] [rI l] = some (.one (iv (idxL p l)), [some (rI l)]) := by
  have h := idxI_loop l f cs p hf hl hp l.length 0 (by omega)
  rw [fn_run hL Try.func108 rfl L108 (by rfl) rfl rfl rfl (by decide)]
  unfold idxL
  cases c : l.any p with
  | true =>
    simp [Try.f108, c] at h ⊢
    simp [h]
  | false =>
    simp [Try.f108, c] at h ⊢
    simp [h]
/-- The loop of DeleteFunc: what is kept stands in front. -/
theorem delI_loop (l : List Item) (f : FuncId) (cs : List PV) (p : Item → Bool) (hf : env.fns f = true) (hl : l.length < 1000000000) (hp : ∀ x ∈ l, A.fn f (ag (encI x) :: cs.map fun p => .at (.pv p)) [] = some (.one (bv (p x)), [])) (n : Nat) : ∀ (j c : Nat) (ys : List Item), l.length = j + n → ys.length = l.length → ys.drop j = l.drop j → c ≤ j →
    ∃ zs : List Item, zs.length = l.length ∧ zs.take (c + ((l.drop j).filter fun x => !p x).length) = ys.take c ++ (l.drop j).filter (fun x => !p x) ∧ A.lp 72 0 (hd72_0 [.at (.row pinN 0), pv (.fn f cs), iv c, iv j] [(pinN, 0, some (rI ys))]) =
      some (.exit 0, ex72_0 [.at (.row pinN 0), iv (c + ((l.drop j).filter fun x => !p x).length : Nat)] [(pinN, 0, some (rI zs))]) := by
  induction n with
  | zero =>
    intro j c ys hj hy hd hc
    obtain rfl : j = l.length := by omega
    refine ⟨ys, hy, by simp, ?_⟩
    rw [lp_run hL Try.func72 rfl (by rfl) 0 rfl]
    simp [hy]
  | succ n ih =>
    intro j c ys hj hy hd hc
    have h1 : j < l.length := by omega
    have h2 : j < ys.length := by omega
    have h3 : c < ys.length := by omega
    have hx := hp l[j] (List.getElem_mem h1)
    rw [List.drop_eq_getElem_cons h1, List.drop_eq_getElem_cons h2] at hd
    obtain ⟨e, hd⟩ := List.cons.inj hd
    rw [← e] at hx
    rw [List.drop_eq_getElem_cons h1, ← e]
    simp only [ag, encI, List.map_cons, List.map_nil] at hx
    cases q : p ys[j] with
    | true =>
      rw [q] at hx
      obtain ⟨zs, z1, z2, z3⟩ := ih (j + 1) c ys (by omega) hy hd (by omega)
      rw [List.filter_cons_of_neg (by simp [q])]
      refine ⟨zs, z1, z2, ?_⟩
      rw [lp_run hL Try.func72 rfl (by rfl) 0 rfl]
      simp [h2, hx, hf]
      simp (disch := omega) only [wr]
      exact z3
    | false =>
      rw [q] at hx
      obtain ⟨zs, z1, z2, z3⟩ := ih (j + 1) (c + 1) (ys.set c ys[j]) (by omega) (by simp [hy]) (by rw [List.drop_set_of_lt (by omega)]; exact hd) (by omega)
      rw [List.filter_cons_of_pos (by simp [q]), List.length_cons, Nat.add_comm _ 1, ← Nat.add_assoc]
      refine ⟨zs, z1, ?_, ?_⟩
      · rw [z2, List.take_succ_eq_append_getElem (by simp; omega)]
        rw [List.take_set_of_le (by omega)]
        simp
      rw [lp_run hL Try.func72 rfl (by rfl) 0 rfl]
      simp [h2, h3, hx, hf]
      simp (disch := omega) only [wr]
      simp only [rI, List.map_set] at z3
      exact z3
theorem idx_filter {α : Type} (p : α → Bool) : ∀ (l : List α), l.any p = true → ∃ h : l.findIdx p < l.length, p (l[l.findIdx p]) = true ∧ (l.take (l.findIdx p)).filter (fun x => !p x) = l.take (l.findIdx p) ∧ l.filter (fun x => !p x) = l.take (l.findIdx p) ++ (l.drop (l.findIdx p + 1)).filter (fun x => !p x)
  | [], h => by simp at h
  | x :: l, h => by
    cases c : p x with
    | true =>
      have e : (x :: l).findIdx p = 0 := by rw [findI_cons, if_pos c]
      refine ⟨by rw [e]; simp, ?_⟩
      simp [e, c]
    | false =>
      have e : (x :: l).findIdx p = l.findIdx p + 1 := by rw [findI_cons, if_neg (by simp [c])]
      rw [List.any_cons, c, Bool.false_or] at h
      obtain ⟨h1, h2, h3, h4⟩ := idx_filter p l h
      refine ⟨by rw [e, List.length_cons]; omega, ?_, ?_, ?_⟩
      · simp only [e, List.getElem_cons_succ]; exact h2
      · rw [e, List.take_succ_cons, List.filter_cons_of_pos (by simp [c]), h3]
      · rw [e, List.take_succ_cons, List.drop_succ_cons, List.filter_cons_of_pos (by simp [c]), h4]; rfl
theorem filter_none {α : Type} (p : α → Bool) (l : List α) (h : l.any p = false) : l.filter (fun x => !p x) = l := by
  rw [List.any_eq_false] at h
  exact List.filter_eq_self.2 fun x hx => by simp [h x hx]
/-- What DeleteFunc answers: a shorter row, if something went; or the very row. -/
def delR (b : Bool) (r : AObj) : Res := match b with
  | true => (.one (.at (.row (pinN + 1) 0)), [none, some r])
  | false => (.one (.at (.row pinN 0)), [some r])
theorem delI (l : List Item) (f : FuncId) (cs : List PV) (p : Item → Bool) (hf : env.fns f = true) (hl : l.length < 1000000000) (hp : ∀ x ∈ l, A.fn f (ag (encI x) :: cs.map fun p => .at (.pv p)) [] = some (.one (bv (p x)), [])) :
    A.fn 72 [.at (.row pinN 0), pv (.fn f cs)] [rI l] = some (delR (l.any p) (rI (l.filter fun x => !p x))) := by
  have h := idxI l f cs p hf hl hp
  rw [fn_run hL Try.func72 rfl L72 (by rfl) rfl rfl rfl (by decide)]
  cases c : l.any p with
  | false =>
    simp only [idxL, c, rI, if_true, Bool.false_eq_true, if_false] at h
    rw [filter_none p l c]
    simp [Try.f72, h, delR]
  | true =>
    obtain ⟨h1, h2, h3, h4⟩ := idx_filter p l c
    simp only [idxL, c, rI, if_true, Bool.false_eq_true, if_false] at h
    generalize hk : l.findIdx p = k at h h1 h2 h3 h4
    obtain ⟨zs, z1, z2, z3⟩ := delI_loop l f cs p hf hl hp (l.length - (k + 1)) (k + 1) k l (by omega) rfl rfl (by omega)
    rw [h4, ← z2]
    have hm := List.length_filter_le (fun x => !p x) (l.drop (k + 1))
    rw [List.length_drop] at hm
    obtain ⟨m, hm'⟩ : ∃ m, k + ((l.drop (k + 1)).filter fun x => !p x).length = m := ⟨_, rfl⟩
    rw [hm'] at z3 ⊢
    have hz : m ≤ zs.length := by omega
    have e1 : ¬ (k : Int) = -1 := by omega
    have e2 : ¬ (m : Int) < 0 := by omega
    simp at z3
    simp [Try.f72, h]
    simp (disch := omega) only [wr]
    simp [z3, e1, e2, hz, delR]
end Go.E2.S
