/- Chapter 21: CacheBound. -/
import Derived.Test.YtiliffhopdiepaaVC8
namespace Go.E2.S
open Go Go.E2 Go.RowKit Go.Proofs
set_option linter.unusedVariables false
set_option linter.unusedSimpArgs false
set_option maxHeartbeats 4000000
set_option maxRecDepth 10000
abbrev bO (o : OpC) : AObj := .blk [.pv (.int .i64 o.f0), .pv (lI o.f1), .pv (lS o.f2), .pv (.str o.f3), .pv (lS o.f4)]
abbrev o3 (c : Cac) (o : OpC) (was : Cac) : List Upd := [(2000, 0, some (bk c)), (2001, 0, some (bO o)), (2002, 0, some (bk was))]
theorem bound_l2 (b : Int) (l : List OpC) (c : Cac) (o : OpC) (was : Cac) (j : Nat) (hk : c.f1.length < 1000000000) (hg : o.f2.length < 1000000000) (h : ∀ k ∈ c.f1, k ∈ o.f2) (n : Nat) : ∀ i : Nat, c.f1.length = i + n →
    A.lp 5 2 (hd5_2 [iv b, pv (lOC l), .at (.ptr 2000 0 0), iv j, .at (.ptr 2001 0 0), .at (.ptr 2002 0 0), iv i] (o3 c o was)) = some (.exit 2, ex5_2 [iv b, pv (lOC l), nov, .at (.ptr 2000 0 0), iv j, .at (.ptr 2001 0 0), .at (.ptr 2002 0 0)] (o3 c o was)) := by
  induction n with
  | zero =>
    intro i hi
    rw [lp_run hL Try.func5 rfl (by rfl) 2 rfl]
    obtain rfl : i = c.f1.length := by omega
    simp
  | succ n ih =>
    intro i hi
    have h1 : i < c.f1.length := by omega
    have ih := ih (i + 1) (by omega)
    have q := is21 o.f2 c.f1[i] hg
    rw [inS_iff.2 (h _ (List.getElem_mem h1))] at q
    rw [lp_run hL Try.func5 rfl (by rfl) 2 rfl]
    simp [h1, q]
    rw [if_pos ?q]
    case q => kernel_rfl
    simp [h1, q]
    simp (disch := omega) only [wr]
    exact ih
theorem bound_l4 (b : Int) (l : List OpC) (c : Cac) (o : OpC) (was : Cac) (j : Nat) (hk : c.f2.length < 1000000000) (hg : o.f2.length < 1000000000) (hw : was.f2.length < 1000000000) (h : ∀ k ∈ c.f2, k ∈ o.f2 → ¬ kC o = 0 ∧ k ∈ was.f2) (n : Nat) : ∀ i : Nat, c.f2.length = i + n →
    A.lp 5 4 (hd5_4 [iv b, pv (lOC l), .at (.ptr 2000 0 0), iv j, .at (.ptr 2001 0 0), .at (.ptr 2002 0 0), iv i] (o3 c o was)) = some (.exit 4, ex5_4 [iv b, pv (lOC l), nov, .at (.ptr 2000 0 0), iv j] [(2000, 0, some (bk c))]) := by
  induction n with
  | zero =>
    intro i hi
    rw [lp_run hL Try.func5 rfl (by rfl) 4 rfl]
    obtain rfl : i = c.f2.length := by omega
    simp
  | succ n ih =>
    intro i hi
    have h1 : i < c.f2.length := by omega
    have ih := ih (i + 1) (by omega)
    have q := is21 o.f2 c.f2[i] hg
    have q2 := is21 was.f2 c.f2[i] hw
    have ek : kC o = (IntKind.u64.wrap o.f0).tmod 4 := rfl
    have hh := h c.f2[i] (List.getElem_mem h1)
    cases d : inS o.f2 c.f2[i] with
    | false =>
      rw [d] at q
      rw [lp_run hL Try.func5 rfl (by rfl) 4 rfl]
      simp [h1, q, q2, bin_rem4]
      rw [if_pos ?q]
      case q => kernel_rfl
      simp [h1, q, q2, bin_rem4]
      simp (disch := omega) only [wr]
      exact ih
    | true =>
      obtain ⟨k0, k1⟩ := hh (inS_iff.1 d)
      rw [ek] at k0
      rw [inS_iff.2 k1] at q2
      rw [d] at q
      rw [lp_run hL Try.func5 rfl (by rfl) 4 rfl]
      simp [h1, q, q2, bin_rem4, k0]
      rw [if_pos ?q]
      case q => kernel_rfl
      simp [h1, q, q2, bin_rem4, k0]
      simp (disch := omega) only [wr]
      exact ih
theorem step_done {c : Cac} (hi : InvC c) {o : OpC} (hk : kC o = 0 ∨ kC o = 1) (hs : (stepL c o).f3 < szI (stepL c o).f0) : ∀ k ∈ (stepL c o).f1, k ∈ o.f2 := by
  unfold stepL at hs ⊢
  rcases hk with h | h
  · rw [if_pos h] at hs ⊢
    exact trim_done _ _ (Nat.le_refl _) hs
  · have h0 : ¬ kC o = 0 := by omega
    rw [if_neg h0, if_pos h] at hs ⊢
    exact trim_done _ _ (Nat.le_refl _) hs
theorem step_gone {c : Cac} {o : OpC} (hk : kC o = 0 ∨ kC o = 1) : ∀ k ∈ (stepL c o).f2, k ∈ o.f2 → ¬ kC o = 0 ∧ k ∈ c.f2 := by
  unfold stepL
  rcases hk with h | h
  · rw [if_pos h]
    intro k hk hs
    rcases trim_gone _ _ k hk with h1 | h1
    · simp at h1
    · exact absurd hs h1
  · have h0 : ¬ kC o = 0 := by omega
    rw [if_neg h0, if_pos h]
    intro k hk hs
    rcases trim_gone _ _ k hk with h1 | h1
    · exact ⟨h0, h1⟩
    · exact absurd hs h1
theorem step_bound (c : Cac) (o : OpC) : (stepL c o).f3 = c.f3 := by
  unfold stepL
  split
  · exact trim_bound _ _
  · split
    · exact trim_bound _ _
    · split
      · unfold useL; split <;> rfl
      · rfl
theorem bound_loop (l : List OpC) (b : Int) (n : Nat) : ∀ (i : Nat) (c : Cac), 12 - i ≤ n → InvC c → Len c (60 * i) (1000 * i) → i ≤ 12 → c.f3 = b →
    ∃ r, A.lp 5 0 (hd5_0 [iv b, pv (lOC l), .at (.ptr 2000 0 0), iv i] [(2000, 0, some (bk c))]) = some r ∧ (r = (.exit 0, ex5_0 [nov] []) ∨ r = (.ret, ex5_0 [bv true] [])) := by
  induction n with
  | zero =>
    intro i c hn hi hl hi12 hb
    obtain rfl : i = 12 := by omega
    refine ⟨_, ?_, .inl rfl⟩
    rw [lp_run hL Try.func5 rfl (by rfl) 0 rfl]
    simp [-seqK.eq_2, -finK.eq_3, -turnK.eq_2, -condK.eq_3, -ex_region, -ex_drawn, -drawK.eq_1, -drawK.eq_2, -ops_cons, -pure_cons, -up_cons, -upC.eq_1, -absPick, ex_regionL, ex_drawnL, drawK_p, drawK_u, ops_gT, pure_gT, up_gT, upR_eq, gT_n, gT_s, gU_s, gX_1, gX_0, gX_t, gW_tt, gW_ff, gW_tf, gW_ft, pick_val, pkD_t, pkD_f, seqK_x, seqK_r, turnK_x, turnK_r, seqK_br, blkK_br, turnK_br, finK_br, regK_br, upC_br, meet_n, meet_e, meet_st, meet_eff, meet_b, meet_i, meet_s, mgL_cons, mgL_nil]
  | succ n ih =>
    intro i c hn hi hlen hi12 hb
    by_cases e12 : i < 12
    · have e12' : (i : Int) < 12 := by omega
      by_cases h1 : i < l.length
      · have q1 := longCa l[i]
        cases hlong : longC l[i] with
        | true =>
          rw [hlong] at q1
          refine ⟨_, ?_, .inr rfl⟩
          rw [lp_run hL Try.func5 rfl (by rfl) 0 rfl]
          simp [ag, encOC] at q1
          simp [h1, e12', q1, encOC]
        | false =>
          rw [hlong] at q1
          have q2 := stepCa c l[i] hi hlong (hlen.mono (by omega) (by omega))
          have hi' := hi.step hlong
          have hlen' := hi.stepLen hlong e12 hlen
          have hb' : (stepL c l[i]).f3 = b := (step_bound _ _).trans hb
          obtain ⟨r, hr, hr'⟩ := ih (i + 1) (stepL c l[i]) (by omega) hi' hlen' (by omega) hb'
          have hd := step_done (c := c) hi (o := l[i])
          have hg := step_gone (c := c) (o := l[i])
          have hw := hlen.2.2
          have hlo := longC_no hlong
          have kp := kC_pos l[i]
          have ek : kC l[i] = (IntKind.u64.wrap l[i].f0).tmod 4 := rfl
          generalize stepL c l[i] = c' at *
          obtain ⟨l0, l1, l2⟩ := hlen'
          refine ⟨r, ?_, hr'⟩
          by_cases k1 : 1 < kC l[i]
          · rw [ek] at k1
            rw [lp_run hL Try.func5 rfl (by rfl) 0 rfl]
            simp [ag, encOC, encC] at q1 q2
            simp [h1, e12', q1, q2, encOC, bin_rem4, k1]
            simp (disch := omega) only [wr]
            exact hr
          · have k01 : kC l[i] = 0 ∨ kC l[i] = 1 := by omega
            have q3 := itemSize c'.f0 (by omega) hi'.sh
            have q4 := bound_l4 b l c' l[i] c i (by omega) (by omega) (by omega) (hg k01) c'.f2.length 0 (by omega)
            rw [ek] at k1
            by_cases hs : b < szI c'.f0
            · have q5 := bound_l2 b l c' l[i] c i (by omega) (by omega) (hd k01 (by rw [hb']; exact hs)) c'.f1.length 0 (by omega)
              rw [lp_run hL Try.func5 rfl (by rfl) 0 rfl]
              simp [ag, encOC, encC] at q1 q2
              simp at q4 q5
              simp [h1, e12', q1, q2, q3, q4, q5, encOC, bin_rem4, k1, hs, -Int.not_lt]
              simp (disch := omega) only [wr]
              exact hr
            · rw [lp_run hL Try.func5 rfl (by rfl) 0 rfl]
              simp [ag, encOC, encC] at q1 q2
              simp at q4
              simp [h1, e12', q1, q2, q3, q4, encOC, bin_rem4, k1, hs, -Int.not_lt]
              simp (disch := omega) only [wr]
              exact hr
      · refine ⟨_, ?_, .inl rfl⟩
        have h1' : ¬ i < l.length := h1
        rw [lp_run hL Try.func5 rfl (by rfl) 0 rfl]
        simp [h1', -Nat.not_lt]
    · obtain rfl : i = 12 := by omega
      refine ⟨_, ?_, .inl rfl⟩
      rw [lp_run hL Try.func5 rfl (by rfl) 0 rfl]
      simp [-seqK.eq_2, -finK.eq_3, -turnK.eq_2, -condK.eq_3, -ex_region, -ex_drawn, -drawK.eq_1, -drawK.eq_2, -ops_cons, -pure_cons, -up_cons, -upC.eq_1, -absPick, ex_regionL, ex_drawnL, drawK_p, drawK_u, ops_gT, pure_gT, up_gT, upR_eq, gT_n, gT_s, gU_s, gX_1, gX_0, gX_t, gW_tt, gW_ff, gW_tf, gW_ft, pick_val, pkD_t, pkD_f, seqK_x, seqK_r, turnK_x, turnK_r, seqK_br, blkK_br, turnK_br, finK_br, regK_br, upC_br, meet_n, meet_e, meet_st, meet_eff, meet_b, meet_i, meet_s, mgL_cons, mgL_nil]
theorem newBound {b : Int} (h : badC b = false) : (newL b).f3 = b := by unfold newL; rw [if_neg (by simp [h])]
theorem cacheBound (b : Int) (l : List OpC) : A.fn 5 [iv b, pv (lOC l)] [] = some (.one (bv true), []) := by
  have q0 := awake21
  have q1 := newC b
  cases hb : badC b with
  | true =>
    rw [hb] at q1
    generalize newL b = c at *
    obtain ⟨c0, c1, c2, c3⟩ := c
    simp [ag, encC] at q1
    rw [fn_run hL Try.func5 rfl L5 (by rfl) rfl rfl rfl (by decide)]
    simp [Try.f5, q0, q1]
  | false =>
    rw [hb] at q1
    obtain ⟨r, h1, h2⟩ := bound_loop l b 12 0 (newL b) (by omega) (newInv b) (newLen b) (by omega) (newBound hb)
    generalize newL b = c at *
    obtain ⟨c0, c1, c2, c3⟩ := c
    simp [ag, encC] at q1
    rw [fn_run hL Try.func5 rfl L5 (by rfl) rfl rfl rfl (by decide)]
    rcases h2 with rfl | rfl <;> (simp at h1; simp [Try.f5, q0, q1, h1])
end Go.E2.S
