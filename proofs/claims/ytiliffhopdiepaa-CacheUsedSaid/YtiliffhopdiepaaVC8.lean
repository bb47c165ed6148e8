/- Chapter 21: steps; CacheForm. -/
import Derived.Test.YtiliffhopdiepaaVC7
namespace Go.E2.S
open Go Go.E2 Go.RowKit Go.Proofs
set_option linter.unusedVariables false
set_option linter.unusedSimpArgs false
set_option maxHeartbeats 4000000
set_option maxRecDepth 10000
theorem bin_rem4 (a : Int) : absBin .rem (.int .u64 a) (.int .u64 4) = some (.int .u64 (a.tmod 4)) := by simp [absBin]
def kC (o : OpC) : Int := (IntKind.u64.wrap o.f0).tmod 4
theorem kC_pos (o : OpC) : 0 ≤ kC o := by
  unfold kC
  have h : 0 ≤ IntKind.u64.wrap o.f0 := by simp [IntKind.wrap, IntKind.bits, IntKind.signed]; omega
  rw [Int.tmod_eq_emod_of_nonneg h]
  omega
def longC (o : OpC) : Bool := !shortL o.f1 || (!shortS o.f2 || (!shortS o.f4 || decide (300 < o.f3.size)))
theorem longCa (o : OpC) : A.fn 14 [ag (encOC o)] [] = some (.one (bv (longC o)), []) := by
  have q1 := short09 o.f1
  have q2 := short08 o.f2
  have q3 := short08 o.f4
  unfold longC
  rw [fn_run hL Try.func14 rfl L14 (by rfl) rfl rfl rfl (by decide)]
  generalize shortL o.f1 = b1 at *
  generalize shortS o.f2 = b2 at *
  generalize shortS o.f4 = b3 at *
  simp [Try.f14, -seqK.eq_2, -finK.eq_3, -turnK.eq_2, -condK.eq_3, -ex_region, -ex_drawn, -drawK.eq_1, -drawK.eq_2, -ops_cons, -pure_cons, -up_cons, -upC.eq_1, -absPick, ex_regionL, ex_drawnL, drawK_p, drawK_u, ops_gT, pure_gT, up_gT, upR_eq, gT_n, gT_s, gU_s, gX_1, gX_0, gX_t, gW_tt, gW_ff, gW_tf, gW_ft, pick_val, pkD_t, pkD_f, seqK_x, seqK_r, turnK_x, turnK_r, seqK_br, blkK_br, turnK_br, finK_br, regK_br, upC_br, meet_n, meet_e, meet_st, meet_eff, meet_b, meet_i, meet_s, mgL_cons, mgL_nil, q1, q2, q3]
  cases b1 <;> cases b2 <;> cases b3 <;> simp [brB]
  omega
theorem longC_no {o : OpC} (h : longC o = false) : (∀ x ∈ o.f1, shortI x = true) ∧ o.f1.length ≤ 60 ∧ o.f2.length ≤ 60 ∧ o.f4.length ≤ 60 := by
  unfold longC at h
  simp only [Bool.or_eq_false_iff, Bool.not_eq_false'] at h
  obtain ⟨h1, h2, h3, _⟩ := h
  simp only [shortL, Bool.and_eq_true, List.all_eq_true, decide_eq_true_eq] at h1
  simp only [shortS, Bool.and_eq_true, decide_eq_true_eq] at h2 h3
  exact ⟨h1.2, h1.1, h2.1, h3.1⟩
def stepL (c : Cac) (o : OpC) : Cac := if kC o = 0 then loadL c o.f1 o.f2 else if kC o = 1 then changeL c (c.f0 ++ o.f1) o.f2 else if kC o = 2 then useL c o.f3 else underL c o.f4
theorem Len.mono {c : Cac} {a g a' g' : Nat} (h : Len c a g) (ha : a ≤ a') (hg : g ≤ g') : Len c a' g' := ⟨Nat.le_trans h.1 ha, Nat.le_trans h.2.1 ha, Nat.le_trans h.2.2 hg⟩
theorem InvC.step {c : Cac} (h : InvC c) {o : OpC} (ho : longC o = false) : InvC (stepL c o) := by
  obtain ⟨h1, _⟩ := longC_no ho
  unfold stepL
  split
  · exact h.load h1 _
  · split
    · exact h.change (fun x hx => (List.mem_append.1 hx).elim (h.sh x) (h1 x)) _
    · split
      · exact h.use _
      · exact h.under _
theorem InvC.stepLen {c : Cac} (h : InvC c) {o : OpC} (ho : longC o = false) {i : Nat} (hi : i < 12) (hl : Len c (60 * i) (1000 * i)) : Len (stepL c o) (60 * (i + 1)) (1000 * (i + 1)) := by
  obtain ⟨h1, h2, h3, h4⟩ := longC_no ho
  obtain ⟨l0, l1, l2⟩ := hl
  unfold stepL
  split
  · exact (load_len h (a := 60 * (i + 1)) (by omega) _).mono (by omega) (by omega)
  · split
    · exact (change_len h (a := 60 * (i + 1)) (g := 1000 * i) (by rw [List.length_append]; omega) l2 _).mono (by omega) (by omega)
    · split
      · exact (use_len o.f3 ⟨l0, l1, l2⟩).mono (by omega) (by omega)
      · exact (under_len o.f4 ⟨l0, l1, l2⟩).mono (by omega) (by omega)
theorem stepCa (c : Cac) (o : OpC) (hi : InvC c) (ho : longC o = false) (hl : Len c 1000 20000) : A.fn 15 [ag (encC c), ag (encOC o)] [] = some (.one (ag (encC (stepL c o))), []) := by
  obtain ⟨h1, h2, h3, h4⟩ := longC_no ho
  obtain ⟨l0, l1, l2⟩ := hl
  have q5 := copy09 c.f0 (by omega)
  have hlim : (c.f0.length + o.f1.length) * 89 ≤ 70368744177664 := by omega
  have ek : kC o = (IntKind.u64.wrap o.f0).tmod 4 := rfl
  unfold stepL
  by_cases k0 : kC o = 0
  · rw [if_pos k0]
    have q := loadC c o.f1 o.f2 hi h1 (by omega) (by omega) (by omega) (by omega) (by omega)
    rw [ek] at k0
    generalize loadL c o.f1 o.f2 = r at *
    simp [ag, encC] at q
    rw [fn_run hL Try.func15 rfl L15 (by rfl) rfl rfl rfl (by decide)]
    simp [Try.f15, bin_rem4, k0, q]
  · rw [if_neg k0]
    by_cases k1 : kC o = 1
    · rw [if_pos k1]
      have q := changeC c (c.f0 ++ o.f1) o.f2 hi (fun x hx => (List.mem_append.1 hx).elim (hi.sh x) (h1 x)) (by omega) (by omega) (by omega) (by omega) (by rw [List.length_append]; omega)
      rw [ek] at k1
      generalize changeL c (c.f0 ++ o.f1) o.f2 = r at *
      rw [show lI (c.f0 ++ o.f1) = .list 8 (c.f0.map encI ++ o.f1.map encI) by simp [lI]] at q
      simp [ag, encC] at q q5
      rw [fn_run hL Try.func15 rfl L15 (by rfl) rfl rfl rfl (by decide)]
      simp [Try.f15, bin_rem4, k1, q, q5, hlim]
      rw [if_pos ?q]
      case q => kernel_rfl
      simp [q, q5, hlim]
    · rw [if_neg k1]
      by_cases k2 : kC o = 2
      · rw [if_pos k2]
        have q := useC c o.f3 (by omega) (by omega) (by omega)
        rw [ek] at k2
        generalize useL c o.f3 = r at *
        simp [ag, encC] at q
        rw [fn_run hL Try.func15 rfl L15 (by rfl) rfl rfl rfl (by decide)]
        simp [Try.f15, bin_rem4, k2, q]
      · rw [if_neg k2]
        have q := underC c o.f4 (by omega) (by omega) (by omega) (by omega)
        rw [ek] at k0 k1 k2
        generalize underL c o.f4 = r at *
        simp [ag, encC] at q
        rw [fn_run hL Try.func15 rfl L15 (by rfl) rfl rfl rfl (by decide)]
        simp [Try.f15, bin_rem4, k0, k1, k2, q]
theorem is_loop21 (l : List ByteArray) (k : ByteArray) (hl : l.length < 1000000000) (n : Nat) : ∀ i : Nat, l.length = i + n →
    A.lp 20 0 (hd20_0 [pv (lS l), sv k, iv i] []) = some (if inS (l.drop i) k = true then (.ret, ex20_0 [bv true] []) else (.exit 0, ex20_0 [nov] [])) := by
  induction n with
  | zero =>
    intro i hi
    rw [lp_run hL Try.func20 rfl (by rfl) 0 rfl]
    obtain rfl : i = l.length := by omega
    simp [inS]
  | succ n ih =>
    intro i hi
    have h1 : i < l.length := by omega
    have ih := ih (i + 1) (by omega)
    rw [List.drop_eq_getElem_cons h1]
    unfold inS at ih ⊢
    rw [List.any_cons]
    rw [lp_run hL Try.func20 rfl (by rfl) 0 rfl]
    by_cases c : l[i] = k
    · subst c
      simp [h1]
    · simp [h1, c, -List.any_eq_true]
      simp (disch := omega) only [wr]
      exact ih
theorem is21 (l : List ByteArray) (k : ByteArray) (hl : l.length < 1000000000) : A.fn 20 [pv (lS l), sv k] [] = some (.one (bv (inS l k)), []) := by
  have h := is_loop21 l k hl l.length 0 (by omega)
  rw [fn_run hL Try.func20 rfl L20 (by rfl) rfl rfl rfl (by decide)]
  cases c : inS l k with
  | true =>
    simp [Try.f20, c] at h ⊢
    simp [h]
  | false =>
    simp [Try.f20, c] at h ⊢
    simp [h]
/-! ### CacheForm -/
abbrev bk (c : Cac) : AObj := .blk [.pv (lI c.f0), .pv (lS c.f1), .pv (lS c.f2), .pv (.int .i64 c.f3)]
theorem form_l2 (l : List OpC) (c : Cac) (j : Nat) (keys : List ByteArray) (hk : keys.length < 1000000000) (hg : c.f2.length < 1000000000) (h : ∀ k ∈ keys, inS c.f2 k = false) (n : Nat) : ∀ i : Nat, keys.length = i + n →
    A.lp 4 2 (hd4_2 [pv (lOC l), .at (.ptr 2000 0 0), iv j, pv (lS keys), iv i] [(2000, 0, some (bk c))]) = some (.exit 2, ex4_2 [pv (lOC l), nov, .at (.ptr 2000 0 0), iv j] [(2000, 0, some (bk c))]) := by
  induction n with
  | zero =>
    intro i hi
    rw [lp_run hL Try.func4 rfl (by rfl) 2 rfl]
    obtain rfl : i = keys.length := by omega
    simp
  | succ n ih =>
    intro i hi
    have h1 : i < keys.length := by omega
    have ih := ih (i + 1) (by omega)
    have q := is21 c.f2 keys[i] hg
    rw [h _ (List.getElem_mem h1)] at q
    rw [lp_run hL Try.func4 rfl (by rfl) 2 rfl]
    simp [h1, q]
    rw [if_pos ?q]
    case q => kernel_rfl
    simp [h1, q]
    simp (disch := omega) only [wr]
    exact ih
theorem form_loop (l : List OpC) (n : Nat) : ∀ (i : Nat) (c : Cac), 12 - i ≤ n → InvC c → Len c (60 * i) (1000 * i) → i ≤ 12 →
    ∃ r, A.lp 4 0 (hd4_0 [pv (lOC l), .at (.ptr 2000 0 0), iv i] [(2000, 0, some (bk c))]) = some r ∧ (r = (.exit 0, ex4_0 [nov] []) ∨ r = (.ret, ex4_0 [bv true] [])) := by
  induction n with
  | zero =>
    intro i c hn hi hl hi12
    obtain rfl : i = 12 := by omega
    refine ⟨_, ?_, .inl rfl⟩
    rw [lp_run hL Try.func4 rfl (by rfl) 0 rfl]
    simp [-seqK.eq_2, -finK.eq_3, -turnK.eq_2, -condK.eq_3, -ex_region, -ex_drawn, -drawK.eq_1, -drawK.eq_2, -ops_cons, -pure_cons, -up_cons, -upC.eq_1, -absPick, ex_regionL, ex_drawnL, drawK_p, drawK_u, ops_gT, pure_gT, up_gT, upR_eq, gT_n, gT_s, gU_s, gX_1, gX_0, gX_t, gW_tt, gW_ff, gW_tf, gW_ft, pick_val, pkD_t, pkD_f, seqK_x, seqK_r, turnK_x, turnK_r, seqK_br, blkK_br, turnK_br, finK_br, regK_br, upC_br, meet_n, meet_e, meet_st, meet_eff, meet_b, meet_i, meet_s, mgL_cons, mgL_nil]
  | succ n ih =>
    intro i c hn hi hlen hi12
    by_cases e12 : i < 12
    · have e12' : (i : Int) < 12 := by omega
      by_cases h1 : i < l.length
      · have q1 := longCa l[i]
        cases hlong : longC l[i] with
        | true =>
          rw [hlong] at q1
          refine ⟨_, ?_, .inr rfl⟩
          rw [lp_run hL Try.func4 rfl (by rfl) 0 rfl]
          simp [ag, encOC] at q1
          simp [h1, e12', q1, encOC]
        | false =>
          rw [hlong] at q1
          have q2 := stepCa c l[i] hi hlong (hlen.mono (by omega) (by omega))
          have hi' := hi.step hlong
          have hlen' := hi.stepLen hlong e12 hlen
          obtain ⟨r, hr, hr'⟩ := ih (i + 1) (stepL c l[i]) (by omega) hi' hlen' (by omega)
          generalize stepL c l[i] = c' at *
          obtain ⟨l0, l1, l2⟩ := hlen'
          have ku : keysL c'.f0 = onceL c'.f1 := onceL_congr fun x => by rw [List.mem_map]; exact (hi'.us x).symm
          have kl : c'.f1.length = (keysL c'.f0).length := nodup_len hi'.nd (up_nodup (onceL_up _)) fun x => by rw [keysL_mem]; exact hi'.us x
          have hkl := keysL_len c'.f0
          have q3 := itemKeys c'.f0 (by omega)
          have q4 := itemNorm c'.f0 (by omega)
          rw [normL_self hi'.up] at q4
          have q5 := same09 c'.f0 c'.f0 (by omega)
          have q6 := ronce c'.f1 (by omega)
          rw [← ku] at q6
          have q7 := same08 (keysL c'.f0) (keysL c'.f0) (by omega)
          have q8 := ronce c'.f2 (by omega)
          rw [onceL_self hi'.gn] at q8
          have q9 := same08 c'.f2 c'.f2 (by omega)
          have q10 := form_l2 l c' i (keysL c'.f0) (by omega) (by omega) (fun k hk => by
            obtain ⟨x, hx, rfl⟩ := (keysL_mem _ _).1 hk
            exact inS_not.2 (hi'.ap x hx)) (keysL c'.f0).length 0 (by omega)
          have kl' : (c'.f1.length : Int) = ((keysL c'.f0).length : Int) := by omega
          refine ⟨r, ?_, hr'⟩
          generalize keysL c'.f0 = ks at *
          rw [lp_run hL Try.func4 rfl (by rfl) 0 rfl]
          simp [ag, encOC, encC, rI] at q1 q2 q4
          simp at q5 q7 q9 q10
          simp [h1, e12', q1, q2, encOC]
          rw [if_pos ?q]
          case q => kernel_rfl
          simp [h1, e12', q1, q2, q3, q4, q5, q6, q7, q8, q9, kl', encOC]
          rw [if_pos ?q]
          case q => kernel_rfl
          simp [h1, e12', q1, q2, q3, q4, q5, q6, q7, q8, q9, q10, kl', encOC]
          simp (disch := omega) only [wr]
          exact hr
      · refine ⟨_, ?_, .inl rfl⟩
        have h1' : ¬ i < l.length := h1
        rw [lp_run hL Try.func4 rfl (by rfl) 0 rfl]
        simp [h1', -Nat.not_lt]
    · obtain rfl : i = 12 := by omega
      refine ⟨_, ?_, .inl rfl⟩
      rw [lp_run hL Try.func4 rfl (by rfl) 0 rfl]
      simp [-seqK.eq_2, -finK.eq_3, -turnK.eq_2, -condK.eq_3, -ex_region, -ex_drawn, -drawK.eq_1, -drawK.eq_2, -ops_cons, -pure_cons, -up_cons, -upC.eq_1, -absPick, ex_regionL, ex_drawnL, drawK_p, drawK_u, ops_gT, pure_gT, up_gT, upR_eq, gT_n, gT_s, gU_s, gX_1, gX_0, gX_t, gW_tt, gW_ff, gW_tf, gW_ft, pick_val, pkD_t, pkD_f, seqK_x, seqK_r, turnK_x, turnK_r, seqK_br, blkK_br, turnK_br, finK_br, regK_br, upC_br, meet_n, meet_e, meet_st, meet_eff, meet_b, meet_i, meet_s, mgL_cons, mgL_nil]
theorem cacheForm (b : Int) (l : List OpC) : A.fn 4 [iv b, pv (lOC l)] [] = some (.one (bv true), []) := by
  have q0 := awake21
  have q1 := newC b
  cases hb : badC b with
  | true =>
    rw [hb] at q1
    generalize newL b = c at *
    obtain ⟨c0, c1, c2, c3⟩ := c
    simp [ag, encC] at q1
    rw [fn_run hL Try.func4 rfl L4 (by rfl) rfl rfl rfl (by decide)]
    simp [Try.f4, q0, q1]
  | false =>
    rw [hb] at q1
    obtain ⟨r, h1, h2⟩ := form_loop l 12 0 (newL b) (by omega) (newInv b) (newLen b) (by omega)
    generalize newL b = c at *
    obtain ⟨c0, c1, c2, c3⟩ := c
    simp [ag, encC] at q1
    rw [fn_run hL Try.func4 rfl L4 (by rfl) rfl rfl rfl (by decide)]
    rcases h2 with rfl | rfl <;> (simp at h1; simp [Try.f4, q0, q1, h1])
end Go.E2.S
