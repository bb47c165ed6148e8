/- A cache: change. -/
import Derived.Test.YtiliffhopdiepaaVC4
namespace Go.E2.S
open Go Go.E2 Go.RowKit Go.Proofs
set_option linter.unusedVariables false
set_option linter.unusedSimpArgs false
set_option maxHeartbeats 4000000
set_option maxRecDepth 10000
/-! ### Change: items without what was put away -/
abbrev bC (c : Cac) (o : Nat) : AObj := .blk [.row (pinN + o) 0, .row (pinN + o + 1) 0, .row (pinN + o + 2) 0, .pv (.int .i64 c.f3)]
theorem chg1C (c : Cac) (x : Item) (h : c.f2.length < 1000000000) : A.fn 30 [ag (encI x), .at (.ptr (pinN + 3) 0 0)] [rI c.f0, rS c.f1, rS c.f2, bC c 0] = some (.one (bv (inS c.f2 x.f0)), [some (rI c.f0), some (rS c.f1), some (rS c.f2), some (bC c 0)]) := by
  have q := contSR c.f2 x.f0 h
  rw [fn_run hL Try.func30 rfl L30 (by rfl) rfl rfl rfl (by decide)]
  simp [rS] at q
  simp [Try.f30, q, bC]
abbrev clC : V1 := .at (.ptr (pinN + 4) 0 (cloN * (30 + 2)))
abbrev oC (r : AObj) (c : Cac) : List Upd := [(pinN, 0, some r), (pinN + 1, 0, some (rI c.f0)), (pinN + 2, 0, some (rS c.f1)), (pinN + 3, 0, some (rS c.f2)), (pinN + 4, 0, some (bC c 1))]
theorem idxC_loop (l : List Item) (c : Cac) (hl : l.length < 1000000000) (hg : c.f2.length < 1000000000) (n : Nat) : ∀ i : Nat, l.length = i + n →
    A.lp 46 0 (hd46_0 [.at (.row pinN 0), clC, iv l.length, iv i] (oC (rI l) c)) =
      some (if (l.drop i).any (fun x => inS c.f2 x.f0) = true then (.ret, ex46_0 [iv (i + (l.drop i).findIdx (fun x => inS c.f2 x.f0) : Nat)] (oC (rI l) c)) else (.exit 0, ex46_0 [nov] (oC (rI l) c))) := by
  induction n with
  | zero =>
    intro i hi
    rw [lp_run hL Try.func46 rfl (by rfl) 0 rfl]
    obtain rfl : i = l.length := by omega
    simp [oC, clC]
  | succ n ih =>
    intro i hi
    have h1 : i < l.length := by omega
    have ih := ih (i + 1) (by omega)
    have hx := chg1C c l[i] hg
    rw [lp_run hL Try.func46 rfl (by rfl) 0 rfl]
    rw [List.drop_eq_getElem_cons h1, List.any_cons, findI_cons]
    simp only [ag, encI, List.map_cons, List.map_nil, pinN, cloN, Nat.reduceAdd, rI, rS, bC] at hx
    cases q : inS c.f2 l[i].f0 with
    | true =>
      rw [q] at hx
      simp [h1, hx, oC, clC, bC]
    | false =>
      rw [q] at hx
      simp [h1, hx, oC, clC, bC, -List.any_eq_true] at ih ⊢
      simp (disch := omega) only [wr]
      refine ih.trans ?_
      have ea : (i : Int) + 1 + ((l.drop (i + 1)).findIdx fun x => inS c.f2 x.f0 : Nat) = i + (((l.drop (i + 1)).findIdx fun x => inS c.f2 x.f0 : Nat) + 1) := by omega
      cases (l.drop (i + 1)).any (fun x => inS c.f2 x.f0) <;> simp [ea]
abbrev fC (r : Option AObj) (c : Cac) : List (Option AObj) := [r, some (rI c.f0), some (rS c.f1), some (rS c.f2), some (bC c 1)]
theorem idxC (l : List Item) (c : Cac) (hl : l.length < 1000000000) (hg : c.f2.length < 1000000000) :
    A.fn 46 [.at (.row pinN 0), clC] [rI l, rI c.f0, rS c.f1, rS c.f2, bC c 1] = some (.one (iv (idxL (fun x => inS c.f2 x.f0) l)), fC (some (rI l)) c) := by
  have h := idxC_loop l c hl hg l.length 0 (by omega)
  rw [fn_run hL Try.func46 rfl L46 (by rfl) rfl rfl rfl (by decide)]
  unfold idxL
  cases q : l.any (fun x => inS c.f2 x.f0) with
  | true =>
    simp [Try.f46, q, oC, clC, bC, fC, -List.any_eq_true] at h ⊢
    simp [h]
  | false =>
    simp [Try.f46, q, oC, clC, bC, fC, -List.any_eq_false] at h ⊢
    simp [h]
theorem delC_loop (l : List Item) (c : Cac) (hl : l.length < 1000000000) (hg : c.f2.length < 1000000000) (n : Nat) : ∀ (j d : Nat) (ys : List Item), l.length = j + n → ys.length = l.length → ys.drop j = l.drop j → d ≤ j →
    ∃ zs : List Item, zs.length = l.length ∧ zs.take (d + ((l.drop j).filter (notIn c.f2)).length) = ys.take d ++ (l.drop j).filter (notIn c.f2) ∧ A.lp 29 0 (hd29_0 [.at (.row pinN 0), clC, iv d, iv j] (oC (rI ys) c)) =
      some (.exit 0, ex29_0 [.at (.row pinN 0), iv (d + ((l.drop j).filter (notIn c.f2)).length : Nat)] (oC (rI zs) c)) := by
  induction n with
  | zero =>
    intro j d ys hj hy hd hc
    obtain rfl : j = l.length := by omega
    refine ⟨ys, hy, by simp, ?_⟩
    rw [lp_run hL Try.func29 rfl (by rfl) 0 rfl]
    simp [hy, oC, clC, bC]
  | succ n ih =>
    intro j d ys hj hy hd hc
    have h1 : j < l.length := by omega
    have h2 : j < ys.length := by omega
    have h3 : d < ys.length := by omega
    have hx := chg1C c ys[j] hg
    rw [List.drop_eq_getElem_cons h1, List.drop_eq_getElem_cons h2] at hd
    obtain ⟨e, hd⟩ := List.cons.inj hd
    rw [List.drop_eq_getElem_cons h1, ← e]
    simp only [ag, encI, List.map_cons, List.map_nil, pinN, cloN, Nat.reduceAdd, rI, rS, bC] at hx
    cases q : inS c.f2 ys[j].f0 with
    | true =>
      rw [q] at hx
      obtain ⟨zs, z1, z2, z3⟩ := ih (j + 1) d ys (by omega) hy hd (by omega)
      rw [List.filter_cons_of_neg (by simp [notIn, q])]
      refine ⟨zs, z1, z2, ?_⟩
      rw [lp_run hL Try.func29 rfl (by rfl) 0 rfl]
      simp [h2, hx, oC, clC, bC] at z3 ⊢
      simp (disch := omega) only [wr]
      exact z3
    | false =>
      rw [q] at hx
      obtain ⟨zs, z1, z2, z3⟩ := ih (j + 1) (d + 1) (ys.set d ys[j]) (by omega) (by simp [hy]) (by rw [List.drop_set_of_lt (by omega)]; exact hd) (by omega)
      rw [List.filter_cons_of_pos (by simp [notIn, q]), List.length_cons, Nat.add_comm _ 1, ← Nat.add_assoc]
      refine ⟨zs, z1, ?_, ?_⟩
      · rw [z2, List.take_succ_eq_append_getElem (by simp; omega)]
        rw [List.take_set_of_le (by omega)]
        simp
      rw [lp_run hL Try.func29 rfl (by rfl) 0 rfl]
      simp only [rI, List.map_set] at z3
      simp [h2, h3, hx, oC, clC, bC] at z3 ⊢
      simp (disch := omega) only [wr]
      exact z3
def delCR (b : Bool) (r : AObj) (c : Cac) : Res := match b with
  | true => (.one (.at (.row (pinN + 5) 0)), fC none c ++ [some r])
  | false => (.one (.at (.row pinN 0)), fC (some r) c)
theorem delC (l : List Item) (c : Cac) (hl : l.length < 1000000000) (hg : c.f2.length < 1000000000) :
    A.fn 29 [.at (.row pinN 0), clC] [rI l, rI c.f0, rS c.f1, rS c.f2, bC c 1] = some (delCR (l.any fun x => inS c.f2 x.f0) (rI (l.filter (notIn c.f2))) c) := by
  have h := idxC l c hl hg
  have en : (notIn c.f2) = fun x => !inS c.f2 x.f0 := rfl
  rw [fn_run hL Try.func29 rfl L29 (by rfl) rfl rfl rfl (by decide)]
  cases q : l.any fun x => inS c.f2 x.f0 with
  | false =>
    rw [en, filter_none _ l q]
    simp only [idxL, q, rI, rS, bC, fC, clC, pinN, cloN, Nat.reduceAdd, Nat.reduceMul, if_true, Bool.false_eq_true, if_false] at h
    simp [Try.f29, h, delCR, fC, bC, clC]
  | true =>
    obtain ⟨h1, h2, h3, h4⟩ := idx_filter (fun x => inS c.f2 x.f0) l q
    simp only [idxL, q, rI, rS, bC, fC, clC, pinN, cloN, Nat.reduceAdd, Nat.reduceMul, if_true, Bool.false_eq_true, if_false] at h
    generalize hk : l.findIdx (fun x => inS c.f2 x.f0) = k at h h1 h2 h3 h4
    obtain ⟨zs, z1, z2, z3⟩ := delC_loop l c hl hg (l.length - (k + 1)) (k + 1) k l (by omega) rfl rfl (by omega)
    rw [en, h4]
    rw [en] at z2
    rw [← z2]
    have hm := List.length_filter_le (fun x => !inS c.f2 x.f0) (l.drop (k + 1))
    rw [List.length_drop] at hm
    rw [en] at z3
    obtain ⟨m, hm'⟩ : ∃ m, k + ((l.drop (k + 1)).filter fun x => !inS c.f2 x.f0).length = m := ⟨_, rfl⟩
    rw [hm'] at z3 ⊢
    have hz : m ≤ zs.length := by omega
    have e1 : ¬ (k : Int) = -1 := by omega
    have e2 : ¬ (m : Int) < 0 := by omega
    simp [oC, clC, bC] at z3
    simp [Try.f29, h, clC, bC]
    simp (disch := omega) only [wr]
    simp [z3, e1, e2, hz, delCR, fC, bC]
theorem changeC (c : Cac) (l : List Item) (spare : List ByteArray) (hi : InvC c) (hl : ∀ x ∈ l, shortI x = true) (hsp : spare.length < 1000000000) (h0 : c.f0.length < 100000) (h1 : c.f1.length < 100000) (h2 : c.f2.length < 100000) (h3 : l.length < 100000) :
    A.fn 11 [ag (encC c), pv (lI l), pv (lS spare)] [] = some (.one (ag (encC (changeL c l spare))), []) := by
  have hn := normL_len l
  have hlf : (leftL c l).length ≤ (normL l).length := List.length_filter_le _ _
  have hu := usesK_len (leftL c l) hi.nd
  have q1 := copiedC c (by omega) (by omega) (by omega)
  have q2 := itemNorm l (by omega)
  have q5 := delC (normL l) c (by omega) (by omega)
  have q3 := usesC c.f1 (leftL c l) h1 (by omega)
  obtain ⟨b, q4⟩ := trimC ⟨leftL c l, usesL c.f1 (keysL (leftL c l)), c.f2, c.f3⟩ spare hsp (hi.change0 hl) (by show (leftL c l).length < _; omega) (by show (usesL c.f1 (keysL (leftL c l))).length < _; omega) (by show c.f2.length < _; omega)
  unfold changeL
  rw [show (normL l).filter (notIn c.f2) = leftL c l from rfl] at q5
  simp only at q4
  generalize usesL c.f1 (keysL (leftL c l)) = us at *
  generalize leftL c l = ll at *
  generalize normL l = nl at *
  generalize (nl.any fun x => inS c.f2 x.f0) = d at *
  generalize trimL spare us.length ⟨ll, us, c.f2, c.f3⟩ = r at *
  obtain ⟨c0, c1, c2, c3⟩ := c
  obtain ⟨r0, r1, r2, r3⟩ := r
  simp [ag, encC, rI, rS] at q1 q2 q3
  simp only [rI, rS, bC, clC, pinN, cloN, Nat.reduceAdd, Nat.reduceMul] at q5
  rw [fn_run hL Try.func11 rfl L11 (by rfl) rfl rfl rfl (by decide)]
  cases b <;> cases d <;> (simp [rI, rS, trimR] at q4; simp [delCR, fC, bC, rI, rS] at q5; simp [Try.f11, q1, q2, q3, q4, q5])
end Go.E2.S
