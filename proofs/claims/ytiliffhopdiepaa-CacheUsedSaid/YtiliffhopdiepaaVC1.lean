/- slices.Index, Contains, IndexFunc, DeleteFunc, BinarySearch of texts (printed by lists.py). -/
import Derived.Test.YtiliffhopdiepaaVIb
import Derived.Test.YtiliffhopdiepaaVPC
import Derived.Test.YtiliffhopdiepaaE14
namespace Go.E2.S
open Go Go.E2 Go.RowKit Go.Proofs
set_option linter.unusedVariables false
set_option linter.unusedSimpArgs false
set_option maxHeartbeats 1000000
set_option maxRecDepth 10000
abbrev rS (l : List ByteArray) : AObj := .row true 1 (l.map encS)
theorem index_loop (l : List ByteArray) (k : ByteArray) (hl : l.length < 1000000000) (n : Nat) : ∀ i : Nat, l.length = i + n →
    A.lp 27 0 (hd27_0 [pv (lS l), sv k, iv l.length, iv i] []) =
      some (if (l.drop i).any (fun x => decide (x = k)) = true then (.ret, ex27_0 [iv (i + (l.drop i).findIdx (fun x => decide (x = k)) : Nat)] []) else (.exit 0, ex27_0 [nov] [])) := by
  induction n with
  | zero =>
    intro i hi
    rw [lp_run hL Try.func27 rfl (by rfl) 0 rfl]
    obtain rfl : i = l.length := by omega
    simp
  | succ n ih =>
    intro i hi
    have h1 : i < l.length := by omega
    have ih := ih (i + 1) (by omega)
    rw [lp_run hL Try.func27 rfl (by rfl) 0 rfl]
    rw [List.drop_eq_getElem_cons h1, List.any_cons, findI_cons]
    by_cases c : l[i] = k
    · subst c
      simp [h1]
    · have c2 : ¬ k = l[i] := fun e => c e.symm
      simp [h1, c, c2, -List.any_eq_true]
      simp (disch := omega) only [wr]
      refine ih.trans ?_
      cases (l.drop (i + 1)).any (fun x => decide (x = k)) <;> simp [Nat.add_assoc, Nat.add_comm 1]
theorem indexS (l : List ByteArray) (k : ByteArray) (hl : l.length < 1000000000) : A.fn 27 [pv (lS l), sv k] [] = some (.one (iv (idxL (fun x => decide (x = k)) l)), []) := by
  have h := index_loop l k hl l.length 0 (by omega)
  rw [fn_run hL Try.func27 rfl L27 (by rfl) rfl rfl rfl (by decide)]
  unfold idxL
  cases c : l.any (fun x => decide (x = k)) with
  | true =>
    simp [Try.f27, c, -List.any_eq_true] at h ⊢
    simp [h]
  | false =>
    simp [Try.f27, c, -List.any_eq_false] at h ⊢
    simp [h]
theorem contS (l : List ByteArray) (k : ByteArray) (hl : l.length < 1000000000) : A.fn 31 [pv (lS l), sv k] [] = some (.one (bv (inS l k)), []) := by
  have h := indexS l k hl
  rw [fn_run hL Try.func31 rfl L31 (by rfl) rfl rfl rfl (by decide)]
  unfold idxL at h
  unfold inS
  cases c : l.any (fun x => decide (x = k)) with
  | true =>
    rw [c] at h
    simp at h
    simp [Try.f31, h]
  | false =>
    rw [c] at h
    simp at h
    simp [Try.f31, h]
theorem indexR_loop (l : List ByteArray) (k : ByteArray) (hl : l.length < 1000000000) (n : Nat) : ∀ i : Nat, l.length = i + n →
    A.lp 27 0 (hd27_0 [.at (.row pinN 0), sv k, iv l.length, iv i] [(pinN, 0, some (rS l))]) =
      some (if (l.drop i).any (fun x => decide (x = k)) = true then (.ret, ex27_0 [iv (i + (l.drop i).findIdx (fun x => decide (x = k)) : Nat)] [(pinN, 0, some (rS l))]) else (.exit 0, ex27_0 [nov] [(pinN, 0, some (rS l))])) := by
  induction n with
  | zero =>
    intro i hi
    rw [lp_run hL Try.func27 rfl (by rfl) 0 rfl]
    obtain rfl : i = l.length := by omega
    simp
  | succ n ih =>
    intro i hi
    have h1 : i < l.length := by omega
    have ih := ih (i + 1) (by omega)
    rw [lp_run hL Try.func27 rfl (by rfl) 0 rfl]
    rw [List.drop_eq_getElem_cons h1, List.any_cons, findI_cons]
    by_cases c : l[i] = k
    · subst c
      simp [h1]
    · have c2 : ¬ k = l[i] := fun e => c e.symm
      simp [h1, c, c2, -List.any_eq_true]
      simp (disch := omega) only [wr]
      refine ih.trans ?_
      cases (l.drop (i + 1)).any (fun x => decide (x = k)) <;> simp [Nat.add_assoc, Nat.add_comm 1]
theorem indexSR (l : List ByteArray) (k : ByteArray) (hl : l.length < 1000000000) : A.fn 27 [.at (.row pinN 0), sv k] [rS l] = some (.one (iv (idxL (fun x => decide (x = k)) l)), [some (rS l)]) := by
  have h := indexR_loop l k hl l.length 0 (by omega)
  rw [fn_run hL Try.func27 rfl L27 (by rfl) rfl rfl rfl (by decide)]
  unfold idxL
  cases c : l.any (fun x => decide (x = k)) with
  | true =>
    simp [Try.f27, c, -List.any_eq_true] at h ⊢
    simp [h]
  | false =>
    simp [Try.f27, c, -List.any_eq_false] at h ⊢
    simp [h]
theorem contSR (l : List ByteArray) (k : ByteArray) (hl : l.length < 1000000000) : A.fn 31 [.at (.row pinN 0), sv k] [rS l] = some (.one (bv (inS l k)), [some (rS l)]) := by
  have h := indexSR l k hl
  rw [fn_run hL Try.func31 rfl L31 (by rfl) rfl rfl rfl (by decide)]
  unfold idxL at h
  unfold inS
  cases c : l.any (fun x => decide (x = k)) with
  | true =>
    rw [c] at h
    simp at h
    simp [Try.f31, h]
  | false =>
    rw [c] at h
    simp at h
    simp [Try.f31, h]
theorem idxSR_loop (l : List ByteArray) (f : FuncId) (cs : List PV) (p : ByteArray → Bool) (hf : env.fns f = true) (hl : l.length < 1000000000) (hp : ∀ x ∈ l, A.fn f (sv x :: cs.map fun p => .at (.pv p)) [] = some (.one (bv (p x)), [])) (n : Nat) : ∀ i : Nat, l.length = i + n →
    A.lp 43 0 (hd43_0 [.at (.row pinN 0), pv (.fn f cs), iv l.length, iv i] [(pinN, 0, some (rS l))]) =
      some (if (l.drop i).any p = true then (.ret, ex43_0 [iv (i + (l.drop i).findIdx p : Nat)] [(pinN, 0, some (rS l))]) else (.exit 0, ex43_0 [nov] [(pinN, 0, some (rS l))])) := by
  induction n with
  | zero =>
    intro i hi
    rw [lp_run hL Try.func43 rfl (by rfl) 0 rfl]
    obtain rfl : i = l.length := by omega
    simp
  | succ n ih =>
    intro i hi
    have h1 : i < l.length := by omega
    have ih := ih (i + 1) (by omega)
    have hx := hp l[i] (List.getElem_mem h1)
    rw [lp_run hL Try.func43 rfl (by rfl) 0 rfl]
    rw [List.drop_eq_getElem_cons h1, List.any_cons, findI_cons]
    cases c : p l[i] with
    | true =>
      rw [c] at hx
      simp [h1, hx, hf]
    | false =>
      rw [c] at hx
      simp [h1, hx, hf, -List.any_eq_true]
      simp (disch := omega) only [wr]
      refine ih.trans ?_
      cases (l.drop (i + 1)).any p <;> simp [Nat.add_assoc, Nat.add_comm 1]
theorem idxSR (l : List ByteArray) (f : FuncId) (cs : List PV) (p : ByteArray → Bool) (hf : env.fns f = true) (hl : l.length < 1000000000) (hp : ∀ x ∈ l, A.fn f (sv x :: cs.map fun p => .at (.pv p)) [] = some (.one (bv (p x)), [])) :
    A.fn 43 [.at (.row pinN 0), pv (.fn f cs)] [rS l] = some (.one (iv (idxL p l)), [some (rS l)]) := by
  have h := idxSR_loop l f cs p hf hl hp l.length 0 (by omega)
  rw [fn_run hL Try.func43 rfl L43 (by rfl) rfl rfl rfl (by decide)]
  unfold idxL
  cases c : l.any p with
  | true =>
    simp [Try.f43, c, -List.any_eq_true] at h ⊢
    simp [h]
  | false =>
    simp [Try.f43, c, -List.any_eq_false] at h ⊢
    simp [h]
theorem delS_loop (l : List ByteArray) (f : FuncId) (cs : List PV) (p : ByteArray → Bool) (hf : env.fns f = true) (hl : l.length < 1000000000) (hp : ∀ x ∈ l, A.fn f (sv x :: cs.map fun p => .at (.pv p)) [] = some (.one (bv (p x)), [])) (n : Nat) : ∀ (j c : Nat) (ys : List ByteArray), l.length = j + n → ys.length = l.length → ys.drop j = l.drop j → c ≤ j →
    ∃ zs : List ByteArray, zs.length = l.length ∧ zs.take (c + ((l.drop j).filter fun x => !p x).length) = ys.take c ++ (l.drop j).filter (fun x => !p x) ∧ A.lp 50 0 (hd50_0 [.at (.row pinN 0), pv (.fn f cs), iv c, iv j] [(pinN, 0, some (rS ys))]) =
      some (.exit 0, ex50_0 [.at (.row pinN 0), iv (c + ((l.drop j).filter fun x => !p x).length : Nat)] [(pinN, 0, some (rS zs))]) := by
  induction n with
  | zero =>
    intro j c ys hj hy hd hc
    obtain rfl : j = l.length := by omega
    refine ⟨ys, hy, by simp, ?_⟩
    rw [lp_run hL Try.func50 rfl (by rfl) 0 rfl]
    simp [hy]
  | succ n ih =>
    intro j c ys hj hy hd hc
    have h1 : j < l.length := by omega
    have h2 : j < ys.length := by omega
    have h3 : c < ys.length := by omega
    have hx := hp l[j] (List.getElem_mem h1)
    rw [List.drop_eq_getElem_cons h1, List.drop_eq_getElem_cons h2] at hd
    obtain ⟨e, hd⟩ := List.cons.inj hd
    rw [← e] at hx
    rw [List.drop_eq_getElem_cons h1, ← e]
    cases q : p ys[j] with
    | true =>
      rw [q] at hx
      obtain ⟨zs, z1, z2, z3⟩ := ih (j + 1) c ys (by omega) hy hd (by omega)
      rw [List.filter_cons_of_neg (by simp [q])]
      refine ⟨zs, z1, z2, ?_⟩
      rw [lp_run hL Try.func50 rfl (by rfl) 0 rfl]
      simp [h2, hx, hf]
      simp (disch := omega) only [wr]
      exact z3
    | false =>
      rw [q] at hx
      obtain ⟨zs, z1, z2, z3⟩ := ih (j + 1) (c + 1) (ys.set c ys[j]) (by omega) (by simp [hy]) (by rw [List.drop_set_of_lt (by omega)]; exact hd) (by omega)
      rw [List.filter_cons_of_pos (by simp [q]), List.length_cons, Nat.add_comm _ 1, ← Nat.add_assoc]
      refine ⟨zs, z1, ?_, ?_⟩
      · rw [z2, List.take_succ_eq_append_getElem (by simp; omega)]
        rw [List.take_set_of_le (by omega)]
        simp
      rw [lp_run hL Try.func50 rfl (by rfl) 0 rfl]
      simp [h2, h3, hx, hf]
      simp (disch := omega) only [wr]
      simp only [rS, List.map_set] at z3
      exact z3
theorem delS (l : List ByteArray) (f : FuncId) (cs : List PV) (p : ByteArray → Bool) (hf : env.fns f = true) (hl : l.length < 1000000000) (hp : ∀ x ∈ l, A.fn f (sv x :: cs.map fun p => .at (.pv p)) [] = some (.one (bv (p x)), [])) :
    A.fn 50 [.at (.row pinN 0), pv (.fn f cs)] [rS l] = some (delR (l.any p) (rS (l.filter fun x => !p x))) := by
  have h := idxSR l f cs p hf hl hp
  rw [fn_run hL Try.func50 rfl L50 (by rfl) rfl rfl rfl (by decide)]
  cases c : l.any p with
  | false =>
    simp only [idxL, c, rS, if_true, Bool.false_eq_true, if_false] at h
    rw [filter_none p l c]
    simp [Try.f50, h, delR]
  | true =>
    obtain ⟨h1, h2, h3, h4⟩ := idx_filter p l c
    simp only [idxL, c, rS, if_true, Bool.false_eq_true, if_false] at h
    generalize hk : l.findIdx p = k at h h1 h2 h3 h4
    obtain ⟨zs, z1, z2, z3⟩ := delS_loop l f cs p hf hl hp (l.length - (k + 1)) (k + 1) k l (by omega) rfl rfl (by omega)
    rw [h4, ← z2]
    have hm := List.length_filter_le (fun x => !p x) (l.drop (k + 1))
    rw [List.length_drop] at hm
    obtain ⟨m, hm'⟩ : ∃ m, k + ((l.drop (k + 1)).filter fun x => !p x).length = m := ⟨_, rfl⟩
    rw [hm'] at z3 ⊢
    have hz : m ≤ zs.length := by omega
    have e1 : ¬ (k : Int) = -1 := by omega
    have e2 : ¬ (m : Int) < 0 := by omega
    simp at z3
    simp [Try.f50, h]
    simp (disch := omega) only [wr]
    simp [z3, e1, e2, hz, delR]
theorem cmpLessS (a b : ByteArray) : A.fn 73 [sv a, sv b] [] = some (.one (bv (decide (bl a < bl b))), []) := by
  have h1 := nanS a
  have h2 := nanS b
  rw [fn_run hL Try.func73 rfl L73 (by rfl) rfl rfl rfl (by decide)]
  simp [Try.f73, -seqK.eq_2, -finK.eq_3, -turnK.eq_2, -condK.eq_3, -ex_region, -ex_drawn, -drawK.eq_1, -drawK.eq_2, -ops_cons, -pure_cons, -up_cons, -upC.eq_1, -absPick, ex_regionL, ex_drawnL, drawK_p, drawK_u, ops_gT, pure_gT, up_gT, upR_eq, gT_n, gT_s, gU_s, gX_1, gX_0, gX_t, gW_tt, gW_ff, gW_tf, gW_ft, pick_val, pkD_t, pkD_f, seqK_x, seqK_r, turnK_x, turnK_r, seqK_br, blkK_br, turnK_br, finK_br, regK_br, upC_br, meet_n, meet_e, meet_st, meet_eff, meet_b, meet_i, meet_s, mgL_cons, mgL_nil, h1, h2]
theorem nanS2 (a : ByteArray) : A.fn 89 [sv a] [] = some (.one (bv false), []) := by
  rw [fn_run hL Try.func89 rfl L89 (by rfl) rfl rfl rfl (by decide)]
  simp [Try.f89]
theorem bs_loop (l : List ByteArray) (k : ByteArray) (p : Nat) (hl : l.length < 1000000000) (hs : ∀ (h : Nat) (hh : h < l.length), (bl l[h] < bl k ↔ h < p)) (n : Nat) : ∀ i j : Nat, j - i ≤ n → i ≤ p → p ≤ j → j ≤ l.length →
    A.lp 61 0 (hd61_0 [.at (.row pinN 0), sv k, iv l.length, iv i, iv j] [(pinN, 0, some (rS l))]) = some (.exit 0, ex61_0 [.at (.row pinN 0), sv k, iv l.length, iv p] [(pinN, 0, some (rS l))]) := by
  induction n with
  | zero =>
    intro i j h0 h1 h2 h3
    obtain rfl : i = p := by omega
    obtain rfl : j = i := by omega
    rw [lp_run hL Try.func61 rfl (by rfl) 0 rfl]
    simp
  | succ n ih =>
    intro i j h0 h1 h2 h3
    by_cases c : i < j
    · obtain ⟨h, hh⟩ : ∃ h, h = (i + j) / 2 := ⟨_, rfl⟩
      have hm : h < l.length := by omega
      have q := cmpLessS l[h] k
      have w0 : IntKind.i64.wrap ((i : Int) + j) = ((i + j : Nat) : Int) := by rw [wr _ (by omega) (by omega)]; omega
      have w1 : IntKind.u64.wrap ((i : Int) + j) = (i : Int) + j := by simp [IntKind.wrap, IntKind.bits, IntKind.signed]; omega
      have w2 : ((i : Int) + j).fdiv 2 = h := by rw [Int.fdiv_eq_ediv_of_nonneg _ (by omega)]; omega
      have w3 : IntKind.i64.wrap (h : Int) = h := wr _ (by omega) (by omega)
      have wb : IntKind.u64.bits = 64 := rfl
      have ih1 := ih (h + 1) j
      have ih2 := ih i h
      have hs := hs h hm
      by_cases d : bl l[h] < bl k
      · rw [decide_eq_true d] at q
        have ih1 := ih1 (by omega) (by have := hs.1 d; omega) h2 h3
        rw [lp_run hL Try.func61 rfl (by rfl) 0 rfl]
        simp [c, w0, w1, w2, w3, wb, hm, q] at ih1 ⊢
        try simp (disch := omega) only [wr]
        exact ih1
      · rw [decide_eq_false d] at q
        have ih2 := ih2 (by omega) h1 (by have := mt hs.2 d; omega) (by omega)
        rw [lp_run hL Try.func61 rfl (by rfl) 0 rfl]
        simp [c, w0, w1, w2, w3, wb, hm, q] at ih2 ⊢
        exact ih2
    · obtain rfl : i = p := by omega
      obtain rfl : j = i := by omega
      rw [lp_run hL Try.func61 rfl (by rfl) 0 rfl]
      simp
theorem bsearch (l : List ByteArray) (k : ByteArray) (hu : Up l) (hl : l.length < 1000000000) : ∃ b, A.fn 61 [.at (.row pinN 0), sv k] [rS l] = some (.tup [iv (posL l k), bv b], [some (rS l)]) := by
  have hp := posL_le l k
  have h := bs_loop l k (posL l k) hl (posL_iff hu) l.length 0 l.length (by omega) (by omega) hp (Nat.le_refl _)
  generalize posL l k = p at h hp
  by_cases c : p < l.length
  · have q1 := nanS2 l[p]
    have q2 := nanS2 k
    refine ⟨decide (l[p] = k), ?_⟩
    rw [fn_run hL Try.func61 rfl L61 (by rfl) rfl rfl rfl (by decide)]
    simp at h
    by_cases d : l[p] = k
    · simp [Try.f61, h, c, d, q1, q2]
    · simp [Try.f61, h, c, d, q1, q2]
  · refine ⟨false, ?_⟩
    obtain rfl : p = l.length := by omega
    rw [fn_run hL Try.func61 rfl L61 (by rfl) rfl rfl rfl (by decide)]
    simp at h
    simp [Try.f61, h]
end Go.E2.S
