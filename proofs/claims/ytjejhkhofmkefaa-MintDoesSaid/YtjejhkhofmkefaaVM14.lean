/- MintRight. -/
import Derived.Test.YtjejhkhofmkefaaVPM3
import Derived.Test.YtjejhkhofmkefaaVF3
namespace Go.E2.S
open Go Go.E2 Go.RowKit Go.Proofs
set_option linter.unusedVariables false
set_option linter.unusedSimpArgs false
set_option maxHeartbeats 4000000
set_option maxRecDepth 10000
theorem mintMake2 (node seq : Int) (items : List Item) (l : List Req) (hi : items.length ≤ 50000) (hw : ∀ x ∈ items, WfI x) (hq : ∀ q ∈ l, WfQ q) :
    A.fn 45 [pv (lI items), iv node, iv seq, pv (lQ l)] [] = some (.tup [pv (lE (makeE node seq items l).1), iv (makeE node seq items l).2], []) := by
  by_cases c2 : 8 < l.length
  · unfold makeE
    rw [if_pos c2]
    by_cases c1 : node < 0 ∨ 8 ≤ node ∨ seq < 1 ∨ 1073741824 < seq
    · rw [if_pos c1]
      rw [fn_run hL Try.func45 rfl L45 (by rfl) rfl rfl rfl (by decide)]
      have e : (decide (node < 0) || (decide (8 ≤ node) || (decide (seq < 1) || decide (1073741824 < seq)))) = true := by simp; exact c1
      simp [Try.f45, -seqK.eq_2, -finK.eq_3, -turnK.eq_2, -condK.eq_3, -ex_region, -ex_drawn, -drawK.eq_1, -drawK.eq_2, -ops_cons, -pure_cons, -up_cons, -upC.eq_1, -absPick, ex_regionL, ex_drawnL, drawK_p, drawK_u, ops_gT, pure_gT, up_gT, upR_eq, gT_n, gT_s, gU_s, gX_1, gX_0, gX_t, gW_tt, gW_ff, gW_tf, gW_ft, pick_val, pkD_t, pkD_f, seqK_x, seqK_r, turnK_x, turnK_r, seqK_br, blkK_br, turnK_br, finK_br, regK_br, upC_br, meet_n, meet_e, meet_st, meet_eff, meet_b, meet_i, meet_s, mgL_cons, mgL_nil, e]
    · rw [if_neg c1]
      have e1 : ¬ node < 0 := by omega
      have e2 : ¬ 8 ≤ node := by omega
      have e3 : ¬ seq < 1 := by omega
      have e4 : ¬ 1073741824 < seq := by omega
      have e5 : (8 : Int) < l.length := by omega
      rw [fn_run hL Try.func45 rfl L45 (by rfl) rfl rfl rfl (by decide)]
      simp [Try.f45, -seqK.eq_2, -finK.eq_3, -turnK.eq_2, -condK.eq_3, -ex_region, -ex_drawn, -drawK.eq_1, -drawK.eq_2, -ops_cons, -pure_cons, -up_cons, -upC.eq_1, -absPick, ex_regionL, ex_drawnL, drawK_p, drawK_u, ops_gT, pure_gT, up_gT, upR_eq, gT_n, gT_s, gU_s, gX_1, gX_0, gX_t, gW_tt, gW_ff, gW_tf, gW_ft, pick_val, pkD_t, pkD_f, seqK_x, seqK_r, turnK_x, turnK_r, seqK_br, blkK_br, turnK_br, finK_br, regK_br, upC_br, meet_n, meet_e, meet_st, meet_eff, meet_b, meet_i, meet_s, mgL_cons, mgL_nil, e1, e2, e3, e4, e5, -Int.not_lt]
  · exact mintMake node seq items l hi hw hq (by omega)
/-- Make's answer, if it is one. -/
theorem make_ok {node seq : Int} {items : List Item} {l : List Req} (h : (makeE node seq items l).2 = 0) : Rng node seq ∧ l.length ≤ 8 ∧ (∀ q ∈ l, formedQ q = true) ∧ okE node seq 0 items l ∧ (makeE node seq items l).1 = runE node seq 0 items l := by
  unfold makeE at h ⊢
  by_cases c1 : node < 0 ∨ 8 ≤ node ∨ seq < 1 ∨ 1073741824 < seq
  · rw [if_pos c1] at h; simp at h
  · rw [if_neg c1] at h ⊢
    by_cases c2 : 8 < l.length
    · rw [if_pos c2] at h; simp at h
    · rw [if_neg c2] at h ⊢
      by_cases c3 : (l.any fun q => !formedQ q) = true
      · rw [if_pos c3] at h; simp at h
      · rw [if_neg c3] at h ⊢
        obtain ⟨h1, h2⟩ := makeG_ok node seq l 0 items [] h
        refine ⟨⟨by omega, by omega, by omega, by omega⟩, by omega, fun q hq => ?_, h1, by rw [h2]; rfl⟩
        simp at c3
        exact c3 q hq
theorem make_err {node seq : Int} {items : List Item} {l : List Req} (h : (makeE node seq items l).2 ≠ 0) : (makeE node seq items l).1 = [] := by
  unfold makeE at h ⊢
  split
  · rfl
  · rename_i c1
    rw [if_neg c1] at h
    split
    · rfl
    · rename_i c2
      rw [if_neg c2] at h
      split
      · rfl
      · rename_i c3
        rw [if_neg c3] at h
        exact makeG_err node seq l 0 items [] h
theorem fin_len (node seq : Int) : ∀ (qs : List Req) (i : Nat) (l : List Item), (finI node seq i l qs).length ≤ l.length + qs.length
  | [], i, l => Nat.le_refl _
  | q :: qs, i, l => by
    have h := fin_len node seq qs (i + 1) (nextI node seq i l q)
    have h2 : (nextI node seq i l q).length ≤ l.length + 1 := by
      unfold nextI
      split
      · exact stepE_len _ _ _ _
      · omega
    rw [finI, List.length_cons]
    omega
theorem right_all (l : List Item) (hl : l.length < 1000000000) (n : Nat) : ∀ i : Nat, l.length = i + n →
    A.lp 8 0 (hd8_0 [.at (.row 2000 0), iv i] [(2000, 0, some (.row false 8 (l.map encI)))]) = some (if (l.drop i).all formedI = true then (.exit 0, ex8_0 [nov] []) else (.ret, ex8_0 [bv false] [])) := by
  induction n with
  | zero =>
    intro i hi
    rw [lp_run hL Try.func8 rfl (by rfl) 0 rfl]
    obtain rfl : i = l.length := by omega
    simp
  | succ n ih =>
    intro i hi
    have h1 : i < l.length := by omega
    have ih := ih (i + 1) (by omega)
    have w1 : IntKind.i64.wrap ((i : Int) + 1) = i + 1 := wr _ (by omega) (by omega)
    have q1 := formed l[i]
    rw [List.drop_eq_getElem_cons h1, List.all_cons]
    rw [lp_run hL Try.func8 rfl (by rfl) 0 rfl]
    simp [ag, encI] at q1
    simp [-List.all_eq_true] at ih
    simp [-seqK.eq_2, -finK.eq_3, -turnK.eq_2, -condK.eq_3, -ex_region, -ex_drawn, -drawK.eq_1, -drawK.eq_2, -ops_cons, -pure_cons, -up_cons, -upC.eq_1, -absPick, ex_regionL, ex_drawnL, drawK_p, drawK_u, ops_gT, pure_gT, up_gT, upR_eq, gT_n, gT_s, gU_s, gX_1, gX_0, gX_t, gW_tt, gW_ff, gW_tf, gW_ft, pick_val, pkD_t, pkD_f, seqK_x, seqK_r, turnK_x, turnK_r, seqK_br, blkK_br, turnK_br, finK_br, regK_br, upC_br, meet_n, meet_e, meet_st, meet_eff, meet_b, meet_i, meet_s, mgL_cons, mgL_nil, h1, w1, q1, ih, -List.all_eq_true]
    clear ih q1
    repeat' refine brB_is.2 ⟨fun _ => ?_, fun _ => ?_⟩
    all_goals grind
theorem mintRight (l : List Item) (node seq : Int) (qs : List Req) (hw : ∀ x ∈ l, WfI x) (hn : I64 node) (hs : I64 seq) (hq : ∀ q ∈ qs, WfQ q) : A.fn 8 [pv (lI l), iv node, iv seq, pv (lQ qs)] [] = some (.one (bv true), []) := by
  have k0 := awake12
  have k1 := usual l node seq
  cases s1 : usualL l node seq with
  | false =>
    rw [s1] at k1
    rw [fn_run hL Try.func8 rfl L8 (by rfl) rfl rfl rfl (by decide)]
    simp [Try.f8, -seqK.eq_2, -finK.eq_3, -turnK.eq_2, -condK.eq_3, -ex_region, -ex_drawn, -drawK.eq_1, -drawK.eq_2, -ops_cons, -pure_cons, -up_cons, -upC.eq_1, -absPick, ex_regionL, ex_drawnL, drawK_p, drawK_u, ops_gT, pure_gT, up_gT, upR_eq, gT_n, gT_s, gU_s, gX_1, gX_0, gX_t, gW_tt, gW_ff, gW_tf, gW_ft, pick_val, pkD_t, pkD_f, seqK_x, seqK_r, turnK_x, turnK_r, seqK_br, blkK_br, turnK_br, finK_br, regK_br, upC_br, meet_n, meet_e, meet_st, meet_eff, meet_b, meet_i, meet_s, mgL_cons, mgL_nil, k0, k1]
  | true =>
    rw [s1] at k1
    obtain ⟨hg, hf, hl⟩ := usual_good s1
    have q1 := mintMake2 node seq l qs (by omega) hw hq
    by_cases c : (makeE node seq l qs).2 = 0
    · obtain ⟨r1, r2, r3, r4, r5⟩ := make_ok c
      obtain ⟨⟨g1, g2⟩, g3, g4⟩ := run_right r1 qs 0 l hg hf r3 (by omega) r4
      have hr := rightE_of g3 fun e he => (g4 e he).2
      have hlen := run_len node seq qs 0 l
      have hfl := fin_len node seq qs 0 l
      have hdo := doE_run node seq qs 0 l
      have hd64 : ∀ e ∈ runE node seq 0 l qs, e.f6.length < 1000000 := fun e he => by
        have := (g4 e he).2.1
        unfold formedE at this
        simp only [Bool.and_eq_true, decide_eq_true_eq] at this
        omega
      rw [r5, c] at q1
      have q2 := effDo l node seq (runE node seq 0 l qs) (by omega) (by omega) (fun e he => by have := hd64 e he; omega)
      have q3 := effRight node seq (runE node seq 0 l qs) (by omega) hd64
      rw [hdo] at q2
      rw [hr] at q3
      have q4 := itemNorm (finI node seq 0 l qs) (by omega)
      rw [normL_self g1.up] at q4
      have q5 := same09 (finI node seq 0 l qs) (finI node seq 0 l qs) (by omega)
      have q6 := right_all (finI node seq 0 l qs) (by omega) (finI node seq 0 l qs).length 0 (by omega)
      rw [List.drop_zero, if_pos (List.all_eq_true.2 g2)] at q6
      have e1 : ¬ (qs.length : Int) < (runE node seq 0 l qs).length := by omega
      generalize runE node seq 0 l qs = es at *
      generalize finI node seq 0 l qs = fin at *
      simp only [rI, pinN] at q2 q4
      simp at q5 q6
      rw [fn_run hL Try.func8 rfl L8 (by rfl) rfl rfl rfl (by decide)]
      simp [Try.f8, -seqK.eq_2, -finK.eq_3, -turnK.eq_2, -condK.eq_3, -ex_region, -ex_drawn, -drawK.eq_1, -drawK.eq_2, -ops_cons, -pure_cons, -up_cons, -upC.eq_1, -absPick, ex_regionL, ex_drawnL, drawK_p, drawK_u, ops_gT, pure_gT, up_gT, upR_eq, gT_n, gT_s, gU_s, gX_1, gX_0, gX_t, gW_tt, gW_ff, gW_tf, gW_ft, pick_val, pkD_t, pkD_f, seqK_x, seqK_r, turnK_x, turnK_r, seqK_br, blkK_br, turnK_br, finK_br, regK_br, upC_br, meet_n, meet_e, meet_st, meet_eff, meet_b, meet_i, meet_s, mgL_cons, mgL_nil, k0, k1, q1, q2, q3, q4, q5, q6, e1, -Int.not_lt]
      done
    · have he := make_err c
      rw [he] at q1
      simp [lE] at q1
      rw [fn_run hL Try.func8 rfl L8 (by rfl) rfl rfl rfl (by decide)]
      simp [Try.f8, -seqK.eq_2, -finK.eq_3, -turnK.eq_2, -condK.eq_3, -ex_region, -ex_drawn, -drawK.eq_1, -drawK.eq_2, -ops_cons, -pure_cons, -up_cons, -upC.eq_1, -absPick, ex_regionL, ex_drawnL, drawK_p, drawK_u, ops_gT, pure_gT, up_gT, upR_eq, gT_n, gT_s, gU_s, gX_1, gX_0, gX_t, gW_tt, gW_ff, gW_tf, gW_ft, pick_val, pkD_t, pkD_f, seqK_x, seqK_r, turnK_x, turnK_r, seqK_br, blkK_br, turnK_br, finK_br, regK_br, upC_br, meet_n, meet_e, meet_st, meet_eff, meet_b, meet_i, meet_s, mgL_cons, mgL_nil, k0, k1, q1, c]
      done
end Go.E2.S
