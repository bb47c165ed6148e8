/- Chapter 21: CacheUsed. -/
import Derived.Test.YtiliffhopdiepaaVC8
namespace Go.E2.S
open Go Go.E2 Go.RowKit Go.Proofs
set_option linter.unusedVariables false
set_option linter.unusedSimpArgs false
set_option maxHeartbeats 4000000
set_option maxRecDepth 10000
theorem rsame21 (c : Cac) (h0 : c.f0.length < 1000000000) (h1 : c.f1.length < 1000000000) (h2 : c.f2.length < 1000000000) : A.fn 23 [ag (encC c), ag (encC c)] [] = some (.one (bv true), []) := by
  have q0 := same09 c.f0 c.f0 h0
  have q1 := same08 c.f1 c.f1 h1
  have q2 := same08 c.f2 c.f2 h2
  rw [fn_run hL Try.func23 rfl L23 (by rfl) rfl rfl rfl (by decide)]
  simp at q0 q1 q2
  simp [Try.f23, q0, q1, q2]
theorem used_loop (l : List OpC) (key other : ByteArray) (n : Nat) : ∀ (i : Nat) (c : Cac), 12 - i ≤ n → InvC c → Len c (60 * i) (1000 * i) → i ≤ 12 →
    ∃ r c', A.lp 6 0 (hd6_0 [pv (lOC l), sv key, sv other, .at (.ptr 2000 0 0), iv i] [(2000, 0, some (bk c))]) = some r ∧ InvC c' ∧ Len c' 720 12000 ∧
      (r = (.exit 0, ex6_0 [sv key, sv other, nov, .at (.ptr 2000 0 0)] [(2000, 0, some (bk c'))]) ∨ r = (.ret, ex6_0 [sv key, sv other, bv true, .at (.ptr 2000 0 0)] [(2000, 0, some (bk c'))])) := by
  induction n with
  | zero =>
    intro i c hn hi hl hi12
    obtain rfl : i = 12 := by omega
    refine ⟨_, c, ?_, hi, hl.mono (by omega) (by omega), .inl rfl⟩
    rw [lp_run hL Try.func6 rfl (by rfl) 0 rfl]
    simp [-seqK.eq_2, -finK.eq_3, -turnK.eq_2, -condK.eq_3, -ex_region, -ex_drawn, -drawK.eq_1, -drawK.eq_2, -ops_cons, -pure_cons, -up_cons, -upC.eq_1, -absPick, ex_regionL, ex_drawnL, drawK_p, drawK_u, ops_gT, pure_gT, up_gT, upR_eq, gT_n, gT_s, gU_s, gX_1, gX_0, gX_t, gW_tt, gW_ff, gW_tf, gW_ft, pick_val, pkD_t, pkD_f, seqK_x, seqK_r, turnK_x, turnK_r, seqK_br, blkK_br, turnK_br, finK_br, regK_br, upC_br, meet_n, meet_e, meet_st, meet_eff, meet_b, meet_i, meet_s, mgL_cons, mgL_nil]
  | succ n ih =>
    intro i c hn hi hlen hi12
    by_cases e12 : i < 12
    · have e12' : (i : Int) < 12 := by omega
      by_cases h1 : i < l.length
      · have q1 := longCa l[i]
        cases hlong : longC l[i] with
        | true =>
          rw [hlong] at q1
          refine ⟨_, c, ?_, hi, hlen.mono (by omega) (by omega), .inr rfl⟩
          rw [lp_run hL Try.func6 rfl (by rfl) 0 rfl]
          simp [ag, encOC] at q1
          simp [h1, e12', q1, encOC]
        | false =>
          rw [hlong] at q1
          have q2 := stepCa c l[i] hi hlong (hlen.mono (by omega) (by omega))
          have hi' := hi.step hlong
          have hlen' := hi.stepLen hlong e12 hlen
          obtain ⟨r, c2, hr, hr'⟩ := ih (i + 1) (stepL c l[i]) (by omega) hi' hlen' (by omega)
          generalize stepL c l[i] = c' at *
          refine ⟨r, c2, ?_, hr'⟩
          rw [lp_run hL Try.func6 rfl (by rfl) 0 rfl]
          simp [ag, encOC, encC] at q1 q2
          simp [h1, e12', q1, q2, encOC]
          rw [if_pos ?q]
          case q => kernel_rfl
          simp [h1, e12', q1, q2, encOC]
          simp (disch := omega) only [wr]
          exact hr
      · refine ⟨_, c, ?_, hi, hlen.mono (by omega) (by omega), .inl rfl⟩
        have h1' : ¬ i < l.length := h1
        rw [lp_run hL Try.func6 rfl (by rfl) 0 rfl]
        simp [h1', -Nat.not_lt]
    · obtain rfl : i = 12 := by omega
      refine ⟨_, c, ?_, hi, hlen.mono (by omega) (by omega), .inl rfl⟩
      rw [lp_run hL Try.func6 rfl (by rfl) 0 rfl]
      simp [-seqK.eq_2, -finK.eq_3, -turnK.eq_2, -condK.eq_3, -ex_region, -ex_drawn, -drawK.eq_1, -drawK.eq_2, -ops_cons, -pure_cons, -up_cons, -upC.eq_1, -absPick, ex_regionL, ex_drawnL, drawK_p, drawK_u, ops_gT, pure_gT, up_gT, upR_eq, gT_n, gT_s, gU_s, gX_1, gX_0, gX_t, gW_tt, gW_ff, gW_tf, gW_ft, pick_val, pkD_t, pkD_f, seqK_x, seqK_r, turnK_x, turnK_r, seqK_br, blkK_br, turnK_br, finK_br, regK_br, upC_br, meet_n, meet_e, meet_st, meet_eff, meet_b, meet_i, meet_s, mgL_cons, mgL_nil]
theorem use_twice {c : Cac} (hi : InvC c) (k : ByteArray) : useL (useL c k) k = useL c k := by
  unfold useL
  by_cases h : inS c.f1 k = true
  · rw [if_pos h]
    have hn := (useS_mem hi.nd (inS_iff.1 h)).2 k
    have h2 : inS (useS c.f1 k ++ [k]) k = true := inS_iff.2 (by simp)
    simp only
    rw [if_pos h2, useS_back _ _ (fun h => (hn.1 h).2 rfl)]
  · rw [if_neg h, if_neg h]
theorem cacheUsed (b : Int) (l : List OpC) (key other : ByteArray) : A.fn 6 [iv b, pv (lOC l), sv key, sv other] [] = some (.one (bv true), []) := by
  have q0 := awake21
  have q1 := newC b
  cases hb : badC b with
  | true =>
    rw [hb] at q1
    generalize newL b = c at *
    obtain ⟨c0, c1, c2, c3⟩ := c
    simp [ag, encC] at q1
    rw [fn_run hL Try.func6 rfl L6 (by rfl) rfl rfl rfl (by decide)]
    simp [Try.f6, q0, q1]
  | false =>
    rw [hb] at q1
    obtain ⟨r, c', h1, hi, hlen, h2⟩ := used_loop l key other 12 0 (newL b) (by omega) (newInv b) (newLen b) (by omega)
    generalize newL b = c at *
    obtain ⟨c0, c1, c2, c3⟩ := c
    simp [ag, encC] at q1
    rcases h2 with rfl | rfl
    · have hu := use_len key hlen
      have ht := use_twice hi key
      have hui := hi.use key
      obtain ⟨l0, l1, l2⟩ := hlen
      have k1 := useC c' key (by omega) (by omega) (by omega)
      have k2 := getC c' other (by omega) (by omega)
      have k3 := getC (useL c' key) other (by have := hu.1; omega) (by have := hu.2.2; omega)
      have k4 := useC (useL c' key) key (by have := hu.1; omega) (by have := hu.2.1; omega) (by have := hu.2.2; omega)
      rw [ht] at k4
      have k5 := rsame21 (useL c' key) (by have := hu.1; omega) (by have := hu.2.1; omega) (by have := hu.2.2; omega)
      have k7 := is21 (useL c' key).f1 key (by have := hu.2.1; omega)
      have eg : getL (useL c' key) other = getL c' other := by unfold getL useL; split <;> rfl
      have eb : (useL c' key).f2 = c'.f2 := by unfold useL; split <;> rfl
      rw [eg, eb] at k3
      have hgl : (getL c' other).length ≤ c'.f0.length := by
        unfold getL
        split
        · simp
        · exact List.length_filter_le _ _
      have k6 := same09 (getL c' other) (getL c' other) (by omega)
      have elen : (useL c' key).f1.length = c'.f1.length := by
        unfold useL
        split
        · rename_i h
          have := useS_len (inS_iff.1 h)
          simp only [List.length_append, List.length_singleton]
          omega
        · rfl
      have elast : inS (useL c' key).f1 key = true → ∃ h : (useL c' key).f1.length - 1 < (useL c' key).f1.length, (useL c' key).f1[(useL c' key).f1.length - 1] = key := by
        intro h
        by_cases hk : inS c'.f1 key = true
        · have e : (useL c' key).f1 = useS c'.f1 key ++ [key] := by unfold useL; rw [if_pos hk]
          simp only [e]
          exact ⟨by simp, by simp⟩
        · have e : (useL c' key).f1 = c'.f1 := by unfold useL; rw [if_neg hk]
          rw [e] at h
          exact absurd h hk
      generalize useL c' key = u at *
      generalize getL c' other = gl at *
      generalize hin : inS u.f1 key = b7 at *
      have l1' := hu.2.1
      simp [ag, encC] at k1 k2 k3 k4 k5
      simp at k6 k7 h1
      have elen' : (u.f1.length : Int) = (c'.f1.length : Int) := by omega
      rw [fn_run hL Try.func6 rfl L6 (by rfl) rfl rfl rfl (by decide)]
      by_cases e0 : u.f1.length = 0
      · have e0' : (c'.f1.length : Int) = 0 := by omega
        have e0'' : u.f1 = [] := List.length_eq_zero_iff.1 e0
        simp [Try.f6, q0, q1, h1, k1, k2, k3, k4, k5, k6, k7, elen', e0']
        rw [if_pos ?q]
        case q => kernel_rfl
        simp [q0, q1, h1, k1, k2, k3, k4, k5, k6, k7, elen', e0']
      · have e0' : ¬ (c'.f1.length : Int) = 0 := by omega
        have n1 : ¬ u.f1 = [] := fun h => e0 (by rw [h]; rfl)
        have n2 : ¬ c'.f1 = [] := fun h => by rw [h] at e0'; exact e0' rfl
        cases b7 with
        | false =>
          simp [Try.f6, q0, q1, h1, k1, k2, k3, k4, k5, k6, k7, elen', e0', n1, n2]
          rw [if_pos ?q]
          case q => kernel_rfl
          simp [q0, q1, h1, k1, k2, k3, k4, k5, k6, k7, elen', e0', n1, n2]
        | true =>
          obtain ⟨g1, g2⟩ := elast rfl
          have w1 : IntKind.i64.wrap ((c'.f1.length : Int) - 1) = ((u.f1.length - 1 : Nat) : Int) := by rw [wr _ (by omega) (by omega)]; omega
          simp [Try.f6, q0, q1, h1, k1, k2, k3, k4, k5, k6, k7, elen', e0', n1, n2, w1, g1, g2]
          rw [if_pos ?q]
          case q => kernel_rfl
          simp [q0, q1, h1, k1, k2, k3, k4, k5, k6, k7, elen', e0', n1, n2, w1, g1, g2]
    · rw [fn_run hL Try.func6 rfl L6 (by rfl) rfl rfl rfl (by decide)]
      simp at h1
      simp [Try.f6, q0, q1, h1]
end Go.E2.S
