/- mint.Make. -/
import Derived.Test.YtjejhkhofmkefaaVM9
namespace Go.E2.S
open Go Go.E2 Go.RowKit Go.Proofs
set_option linter.unusedVariables false
set_option linter.unusedSimpArgs false
set_option maxHeartbeats 4000000
set_option maxRecDepth 10000
/-- What one request comes to: its effect, does it do something, its error. -/
def oneE (node seq at_ : Int) (l : List Item) (q : Req) : Eff × Bool × Int :=
  if 64 < (dropsL q node l).length then (eff0, false, 4)
  else if q.f0 = 1 then (⟨at_, q.f1, q.f2, 1, q.f3, 0, dropsL q node l⟩, true, 0)
  else if q.f0 = 3 then (⟨at_, q.f1, q.f2, 2, q.f3, 0, dropsL q node l⟩, true, 0)
  else if q.f0 = 4 then (if incBad q node seq at_ l = true then (eff0, false, 5) else (incE q node at_ l, true, 0))
  else (⟨at_, q.f1, q.f2, 0, ⟨#[]⟩, 0, dropsL q node l⟩, decide (0 < (dropsL q node l).length), 0)
/-- A request's numbers are such as Go's types have. -/
def WfQ (q : Req) : Prop := I64 q.f0 ∧ I64 q.f4
theorem oneRun (l : List Item) (node seq at_ : Int) (q : Req) (hl : l.length ≤ 60000) (hw : ∀ x ∈ l, WfI x) (hn : I64 node) (hsq : I64 seq) (ha : I64 at_) (hq : WfQ q) :
    A.fn 87 [pv (lI l), iv node, iv seq, iv at_, ag (encQ q)] [] = some (.tup [ag (encE (oneE node seq at_ l q).1), bv (oneE node seq at_ l q).2.1, iv (oneE node seq at_ l q).2.2], []) := by
  unfold oneE
  by_cases c : 64 < (dropsL q node l).length
  · rw [if_pos c]; exact one_long l node seq at_ q (by omega) c
  · rw [if_neg c]
    by_cases c1 : q.f0 = 1
    · rw [if_pos c1]; exact one_add l node seq at_ q (by omega) (by omega) c1
    · rw [if_neg c1]
      by_cases c3 : q.f0 = 3
      · rw [if_pos c3]; exact one_put l node seq at_ q (by omega) (by omega) c3
      · rw [if_neg c3]
        by_cases c4 : q.f0 = 4
        · rw [if_pos c4]
          have h := one_inc l node seq at_ q hl hw hn hsq ha hq.2 (by omega) c4
          rw [h]
          split <;> rfl
        · rw [if_neg c4]; exact one_drop l node seq at_ q (by omega) (by omega) c1 c3 c4
theorem oneE_drops (node seq at_ : Int) (l : List Item) (q : Req) : (oneE node seq at_ l q).1.f6.length ≤ 64 := by
  unfold oneE
  split
  · simp [eff0]
  · split
    · simp; omega
    · split
      · simp; omega
      · split
        · split
          · simp [eff0]
          · simp [incE]; omega
        · simp; omega
theorem oneE_wf {node seq at_ : Int} {l : List Item} {q : Req} (ha : I64 at_) : I64 (oneE node seq at_ l q).1.f0 ∧ I64 (oneE node seq at_ l q).1.f3 ∧ I64 (oneE node seq at_ l q).1.f5 := by
  have z : I64 0 := by unfold I64; omega
  have z1 : I64 1 := by unfold I64; omega
  have z2 : I64 2 := by unfold I64; omega
  have z3 : I64 3 := by unfold I64; omega
  unfold oneE
  split
  · exact ⟨z, z, z⟩
  · split
    · exact ⟨ha, z1, z⟩
    · split
      · exact ⟨ha, z2, z⟩
      · split
        · split
          · exact ⟨z, z, z⟩
          · exact ⟨ha, z3, tot_wf _⟩
        · exact ⟨ha, z, z⟩
/-- Requests, one behind the other. -/
def makeG (node seq : Int) : Nat → List Item → List Eff → List Req → List Eff × Int
  | _, _, out, [] => (out, 0)
  | i, items, out, q :: l => if (oneE node seq i items q).2.2 = 0 then
      (if (oneE node seq i items q).2.1 = true then makeG node seq (i + 1) (doE node seq items [(oneE node seq i items q).1]) (out ++ [(oneE node seq i items q).1]) l else makeG node seq (i + 1) items out l)
    else ([], (oneE node seq i items q).2.2)
abbrev rE (l : List Eff) : AObj := .row true 7 (l.map encE)
def makeR (r : List Eff × Int) (out : List Eff) : Exit × St := if r.2 = 0 then (.exit 0, ex45_0 [nov, nov, .at (.row 2000 0)] [(2000, 0, some (rE r.1))]) else (.ret, ex45_0 [.at .nil, iv r.2, .at (.row 2000 0)] [(2000, 0, some (rE out))])
theorem make_loop (node seq : Int) (l : List Req) (hl : l.length ≤ 8) (hn : I64 node) (hsq : I64 seq) (hq : ∀ q ∈ l, WfQ q) (n : Nat) : ∀ (i : Nat) (items : List Item) (out : List Eff), l.length = i + n → items.length ≤ 50000 + i → (∀ x ∈ items, WfI x) → out.length ≤ i →
    ∃ out', A.lp 45 0 (hd45_0 [pv (lI items), iv node, iv seq, .at (.row 2000 0), pv (lQ l), iv l.length, iv i] [(2000, 0, some (rE out))]) = some (makeR (makeG node seq i items out (l.drop i)) out') := by
  induction n with
  | zero =>
    intro i items out hi h1 h2 h3
    refine ⟨out, ?_⟩
    rw [lp_run hL Try.func45 rfl (by rfl) 0 rfl]
    obtain rfl : i = l.length := by omega
    simp [makeG, makeR, rE]
  | succ n ih =>
    intro i items out hi h1 h2 h3
    have hi1 : i < l.length := by omega
    have ha : I64 (i : Int) := by unfold I64; omega
    have q1 := oneRun items node seq i l[i] (by omega) h2 hn hsq ha (hq _ (List.getElem_mem hi1))
    have hdl := oneE_drops node seq i items l[i]
    obtain ⟨w0, w3, w5⟩ := oneE_wf (node := node) (seq := seq) (l := items) (q := l[i]) ha
    have w1 : IntKind.i64.wrap ((i : Int) + 1) = i + 1 := wr _ (by omega) (by omega)
    rw [List.drop_eq_getElem_cons hi1, makeG]
    generalize hr : oneE node seq i items l[i] = r at *
    obtain ⟨e, does, bad⟩ := r
    simp only at *
    have q2 := effDo items node seq [e] (by omega) (by simp) (fun x hx => by rw [List.mem_singleton.1 hx]; omega)
    have hlim := lim_le (n := out.length) (by omega)
    have hst := stepE_len node seq items e
    obtain ⟨o1, ih1⟩ := ih (i + 1) (doE node seq items [e]) (out ++ [e]) (by omega) (by show (stepE node seq items e).length ≤ _; omega) (fun x hx => by
      rcases stepE_sub hx with hx | rfl
      · exact h2 x hx
      · exact madeE_wf hn hsq w0 w3 w5) (by simp; omega)
    obtain ⟨o2, ih2⟩ := ih (i + 1) items out (by omega) (by omega) h2 (by omega)
    simp [ag, encQ, encE] at q1
    simp only [lE, List.map_cons, List.map_nil, rI, pinN] at q2
    simp [rE] at ih1 ih2
    by_cases c : bad = 0
    · subst c
      cases does
      · refine ⟨o2, ?_⟩
        rw [lp_run hL Try.func45 rfl (by rfl) 0 rfl]
        simp [-seqK.eq_2, -finK.eq_3, -turnK.eq_2, -condK.eq_3, -ex_region, -ex_drawn, -drawK.eq_1, -drawK.eq_2, -ops_cons, -pure_cons, -up_cons, -upC.eq_1, -absPick, ex_regionL, ex_drawnL, drawK_p, drawK_u, ops_gT, pure_gT, up_gT, upR_eq, gT_n, gT_s, gU_s, gX_1, gX_0, gX_t, gW_tt, gW_ff, gW_tf, gW_ft, pick_val, pkD_t, pkD_f, seqK_x, seqK_r, turnK_x, turnK_r, seqK_br, blkK_br, turnK_br, finK_br, regK_br, upC_br, meet_n, meet_e, meet_st, meet_eff, meet_b, meet_i, meet_s, mgL_cons, mgL_nil, hi1, q1, w1, rE]
        exact ih2
      · refine ⟨o1, ?_⟩
        rw [lp_run hL Try.func45 rfl (by rfl) 0 rfl]
        simp [-seqK.eq_2, -finK.eq_3, -turnK.eq_2, -condK.eq_3, -ex_region, -ex_drawn, -drawK.eq_1, -drawK.eq_2, -ops_cons, -pure_cons, -up_cons, -upC.eq_1, -absPick, ex_regionL, ex_drawnL, drawK_p, drawK_u, ops_gT, pure_gT, up_gT, upR_eq, gT_n, gT_s, gU_s, gX_1, gX_0, gX_t, gW_tt, gW_ff, gW_tf, gW_ft, pick_val, pkD_t, pkD_f, seqK_x, seqK_r, turnK_x, turnK_r, seqK_br, blkK_br, turnK_br, finK_br, regK_br, upC_br, meet_n, meet_e, meet_st, meet_eff, meet_b, meet_i, meet_s, mgL_cons, mgL_nil, hi1, q1, q2, w1, rE, hlim]
        exact ih1
    · refine ⟨out, ?_⟩
      rw [lp_run hL Try.func45 rfl (by rfl) 0 rfl]
      simp [-seqK.eq_2, -finK.eq_3, -turnK.eq_2, -condK.eq_3, -ex_region, -ex_drawn, -drawK.eq_1, -drawK.eq_2, -ops_cons, -pure_cons, -up_cons, -upC.eq_1, -absPick, ex_regionL, ex_drawnL, drawK_p, drawK_u, ops_gT, pure_gT, up_gT, upR_eq, gT_n, gT_s, gU_s, gX_1, gX_0, gX_t, gW_tt, gW_ff, gW_tf, gW_ft, pick_val, pkD_t, pkD_f, seqK_x, seqK_r, turnK_x, turnK_r, seqK_br, blkK_br, turnK_br, finK_br, regK_br, upC_br, meet_n, meet_e, meet_st, meet_eff, meet_b, meet_i, meet_s, mgL_cons, mgL_nil, hi1, q1, w1, rE, c, makeR]
theorem makeG_err (node seq : Int) : ∀ (l : List Req) (i : Nat) (items : List Item) (out : List Eff), (makeG node seq i items out l).2 ≠ 0 → (makeG node seq i items out l).1 = []
  | [], _, _, _, h => by simp [makeG] at h
  | q :: l, i, items, out, h => by
    rw [makeG] at h ⊢
    split at h
    · rename_i c
      rw [if_pos c]
      split at h
      · rename_i c2
        rw [if_pos c2]
        exact makeG_err node seq l _ _ _ h
      · rename_i c2
        rw [if_neg c2]
        exact makeG_err node seq l _ _ _ h
    · rename_i c
      rw [if_neg c]
def makeE (node seq : Int) (items : List Item) (l : List Req) : List Eff × Int :=
  if node < 0 ∨ 8 ≤ node ∨ seq < 1 ∨ 1073741824 < seq then ([], 1)
  else if 8 < l.length then ([], 4)
  else if (l.any fun q => !formedQ q) = true then ([], 2)
  else makeG node seq 0 items [] l
theorem mintMake (node seq : Int) (items : List Item) (l : List Req) (hi : items.length ≤ 50000) (hw : ∀ x ∈ items, WfI x) (hq : ∀ q ∈ l, WfQ q) (hl : l.length < 1000000000) :
    A.fn 45 [pv (lI items), iv node, iv seq, pv (lQ l)] [] = some (.tup [pv (lE (makeE node seq items l).1), iv (makeE node seq items l).2], []) := by
  have q1 := allFormed l hl
  unfold makeE
  by_cases c1 : node < 0 ∨ 8 ≤ node ∨ seq < 1 ∨ 1073741824 < seq
  · rw [if_pos c1]
    rw [fn_run hL Try.func45 rfl L45 (by rfl) rfl rfl rfl (by decide)]
    have e : (decide (node < 0) || (decide (8 ≤ node) || (decide (seq < 1) || decide (1073741824 < seq)))) = true := by simp; exact c1
    simp [Try.f45, -seqK.eq_2, -finK.eq_3, -turnK.eq_2, -condK.eq_3, -ex_region, -ex_drawn, -drawK.eq_1, -drawK.eq_2, -ops_cons, -pure_cons, -up_cons, -upC.eq_1, -absPick, ex_regionL, ex_drawnL, drawK_p, drawK_u, ops_gT, pure_gT, up_gT, upR_eq, gT_n, gT_s, gU_s, gX_1, gX_0, gX_t, gW_tt, gW_ff, gW_tf, gW_ft, pick_val, pkD_t, pkD_f, seqK_x, seqK_r, turnK_x, turnK_r, seqK_br, blkK_br, turnK_br, finK_br, regK_br, upC_br, meet_n, meet_e, meet_st, meet_eff, meet_b, meet_i, meet_s, mgL_cons, mgL_nil, e]
  · rw [if_neg c1]
    by_cases c2 : 8 < l.length
    · rw [if_pos c2]
      have e1 : ¬ node < 0 := by omega
      have e2 : ¬ 8 ≤ node := by omega
      have e3 : ¬ seq < 1 := by omega
      have e4 : ¬ 1073741824 < seq := by omega
      have e5 : (8 : Int) < l.length := by omega
      rw [fn_run hL Try.func45 rfl L45 (by rfl) rfl rfl rfl (by decide)]
      simp [Try.f45, -seqK.eq_2, -finK.eq_3, -turnK.eq_2, -condK.eq_3, -ex_region, -ex_drawn, -drawK.eq_1, -drawK.eq_2, -ops_cons, -pure_cons, -up_cons, -upC.eq_1, -absPick, ex_regionL, ex_drawnL, drawK_p, drawK_u, ops_gT, pure_gT, up_gT, upR_eq, gT_n, gT_s, gU_s, gX_1, gX_0, gX_t, gW_tt, gW_ff, gW_tf, gW_ft, pick_val, pkD_t, pkD_f, seqK_x, seqK_r, turnK_x, turnK_r, seqK_br, blkK_br, turnK_br, finK_br, regK_br, upC_br, meet_n, meet_e, meet_st, meet_eff, meet_b, meet_i, meet_s, mgL_cons, mgL_nil, e1, e2, e3, e4, e5, -Int.not_lt]
    · have e1 : ¬ node < 0 := by omega
      have e2 : ¬ 8 ≤ node := by omega
      have e3 : ¬ seq < 1 := by omega
      have e4 : ¬ 1073741824 < seq := by omega
      have e5 : ¬ (8 : Int) < l.length := by omega
      obtain ⟨o, h⟩ := make_loop node seq l (by omega) (by unfold I64; omega) (by unfold I64; omega) hq l.length 0 items [] (by omega) (by omega) hw (by simp)
      rw [if_neg c2]
      simp [rE] at h
      cases c3 : l.any fun q => !formedQ q
      · rw [c3] at q1
        rw [if_neg (by simp)]
        unfold makeR at h
        by_cases c4 : (makeG node seq 0 items [] l).2 = 0
        · rw [if_pos c4] at h
          rw [fn_run hL Try.func45 rfl L45 (by rfl) rfl rfl rfl (by decide)]
          simp [Try.f45, -seqK.eq_2, -finK.eq_3, -turnK.eq_2, -condK.eq_3, -ex_region, -ex_drawn, -drawK.eq_1, -drawK.eq_2, -ops_cons, -pure_cons, -up_cons, -upC.eq_1, -absPick, ex_regionL, ex_drawnL, drawK_p, drawK_u, ops_gT, pure_gT, up_gT, upR_eq, gT_n, gT_s, gU_s, gX_1, gX_0, gX_t, gW_tt, gW_ff, gW_tf, gW_ft, pick_val, pkD_t, pkD_f, seqK_x, seqK_r, turnK_x, turnK_r, seqK_br, blkK_br, turnK_br, finK_br, regK_br, upC_br, meet_n, meet_e, meet_st, meet_eff, meet_b, meet_i, meet_s, mgL_cons, mgL_nil, e1, e2, e3, e4, e5, q1, h, c4, -Int.not_lt]
        · rw [if_neg c4] at h
          have c5 := makeG_err node seq l 0 items [] c4
          rw [fn_run hL Try.func45 rfl L45 (by rfl) rfl rfl rfl (by decide)]
          simp [Try.f45, -seqK.eq_2, -finK.eq_3, -turnK.eq_2, -condK.eq_3, -ex_region, -ex_drawn, -drawK.eq_1, -drawK.eq_2, -ops_cons, -pure_cons, -up_cons, -upC.eq_1, -absPick, ex_regionL, ex_drawnL, drawK_p, drawK_u, ops_gT, pure_gT, up_gT, upR_eq, gT_n, gT_s, gU_s, gX_1, gX_0, gX_t, gW_tt, gW_ff, gW_tf, gW_ft, pick_val, pkD_t, pkD_f, seqK_x, seqK_r, turnK_x, turnK_r, seqK_br, blkK_br, turnK_br, finK_br, regK_br, upC_br, meet_n, meet_e, meet_st, meet_eff, meet_b, meet_i, meet_s, mgL_cons, mgL_nil, e1, e2, e3, e4, e5, q1, h, c4, c5, -Int.not_lt]
      · rw [c3] at q1
        rw [if_pos rfl]
        rw [fn_run hL Try.func45 rfl L45 (by rfl) rfl rfl rfl (by decide)]
        simp [Try.f45, -seqK.eq_2, -finK.eq_3, -turnK.eq_2, -condK.eq_3, -ex_region, -ex_drawn, -drawK.eq_1, -drawK.eq_2, -ops_cons, -pure_cons, -up_cons, -upC.eq_1, -absPick, ex_regionL, ex_drawnL, drawK_p, drawK_u, ops_gT, pure_gT, up_gT, upR_eq, gT_n, gT_s, gU_s, gX_1, gX_0, gX_t, gW_tt, gW_ff, gW_tf, gW_ft, pick_val, pkD_t, pkD_f, seqK_x, seqK_r, turnK_x, turnK_r, seqK_br, blkK_br, turnK_br, finK_br, regK_br, upC_br, meet_n, meet_e, meet_st, meet_eff, meet_b, meet_i, meet_s, mgL_cons, mgL_nil, e1, e2, e3, e4, e5, q1, -Int.not_lt]
end Go.E2.S
