/- MintCounts. -/
import Derived.Test.YtjejhkhofmkefaaVLw1
import Derived.Test.YtjejhkhofmkefaaVF3
import Derived.Test.YtjejhkhofmkefaaVF9
namespace Go.E2.S
open Go Go.E2 Go.RowKit Go.Proofs
set_option linter.unusedVariables false
set_option linter.unusedSimpArgs false
set_option maxHeartbeats 4000000
set_option maxRecDepth 10000
theorem I64_of {n : Int} (h0 : -9223372036854775808 ≤ n) (h1 : n ≤ 9223372036854775807) : I64 n := ⟨h0, h1⟩
theorem mintCounts (l : List Item) (node seq : Int) (key fld : ByteArray) (n : Int) (hw : ∀ x ∈ l, WfI x) (hn : I64 n) : A.fn 6 [pv (lI l), iv node, iv seq, sv key, sv fld, iv n] [] = some (.one (bv true), []) := by
  have k0 := awake12
  have k1 := usual l node seq
  have k2 := mformed (incQ key fld n)
  simp [ag, encQ] at k2
  cases s1 : usualL l node seq with
  | false =>
    rw [s1] at k1
    rw [fn_run hL Try.func6 rfl L6 (by rfl) rfl rfl rfl (by decide)]
    simp [Try.f6, -seqK.eq_2, -finK.eq_3, -turnK.eq_2, -condK.eq_3, -ex_region, -ex_drawn, -drawK.eq_1, -drawK.eq_2, -ops_cons, -pure_cons, -up_cons, -upC.eq_1, -absPick, ex_regionL, ex_drawnL, drawK_p, drawK_u, ops_gT, pure_gT, up_gT, upR_eq, gT_n, gT_s, gU_s, gX_1, gX_0, gX_t, gW_tt, gW_ff, gW_tf, gW_ft, pick_val, pkD_t, pkD_f, seqK_x, seqK_r, turnK_x, turnK_r, seqK_br, blkK_br, turnK_br, finK_br, regK_br, upC_br, meet_n, meet_e, meet_st, meet_eff, meet_b, meet_i, meet_s, mgL_cons, mgL_nil, k0, k1]
  | true =>
    rw [s1] at k1
    obtain ⟨hg, hf, hl⟩ := usual_good s1
    cases s2 : formedQ (incQ key fld n) with
    | false =>
      rw [s2] at k2
      rw [fn_run hL Try.func6 rfl L6 (by rfl) rfl rfl rfl (by decide)]
      simp [Try.f6, -seqK.eq_2, -finK.eq_3, -turnK.eq_2, -condK.eq_3, -ex_region, -ex_drawn, -drawK.eq_1, -drawK.eq_2, -ops_cons, -pure_cons, -up_cons, -upC.eq_1, -absPick, ex_regionL, ex_drawnL, drawK_p, drawK_u, ops_gT, pure_gT, up_gT, upR_eq, gT_n, gT_s, gU_s, gX_1, gX_0, gX_t, gW_tt, gW_ff, gW_tf, gW_ft, pick_val, pkD_t, pkD_f, seqK_x, seqK_r, turnK_x, turnK_r, seqK_br, blkK_br, turnK_br, finK_br, regK_br, upC_br, meet_n, meet_e, meet_st, meet_eff, meet_b, meet_i, meet_s, mgL_cons, mgL_nil, k0, k1, k2]
    | true =>
      rw [s2] at k2
      by_cases c : node < 0 ∨ 8 ≤ node ∨ seq < 1 ∨ 1073741824 < seq
      · have e : (decide (node < 0) || (decide (8 ≤ node) || (decide (seq < 1) || decide (1073741824 < seq)))) = true := by simp; exact c
        rw [fn_run hL Try.func6 rfl L6 (by rfl) rfl rfl rfl (by decide)]
        simp [Try.f6, -seqK.eq_2, -finK.eq_3, -turnK.eq_2, -condK.eq_3, -ex_region, -ex_drawn, -drawK.eq_1, -drawK.eq_2, -ops_cons, -pure_cons, -up_cons, -upC.eq_1, -absPick, ex_regionL, ex_drawnL, drawK_p, drawK_u, ops_gT, pure_gT, up_gT, upR_eq, gT_n, gT_s, gU_s, gX_1, gX_0, gX_t, gW_tt, gW_ff, gW_tf, gW_ft, pick_val, pkD_t, pkD_f, seqK_x, seqK_r, turnK_x, turnK_r, seqK_br, blkK_br, turnK_br, finK_br, regK_br, upC_br, meet_n, meet_e, meet_st, meet_eff, meet_b, meet_i, meet_s, mgL_cons, mgL_nil, k0, k1, k2, e]
      · have e1 : ¬ node < 0 := by omega
        have e2 : ¬ 8 ≤ node := by omega
        have e3 : ¬ seq < 1 := by omega
        have e4 : ¬ 1073741824 < seq := by omega
        have q1 := vfield l key fld (by omega) hw
        have q2 := mintMake node seq l [incQ key fld n] (by omega) hw (by
          intro q hq
          rw [List.mem_singleton.1 hq]
          exact ⟨by unfold I64; simp, hn⟩) (by simp)
        have em : makeE node seq l [incQ key fld n] = makeG node seq 0 l [] [incQ key fld n] := by
          unfold makeE
          rw [if_neg (by omega), if_neg (by simp), if_neg (by simp [s2])]
        have hb := oneE_bad (node := node) (seq := seq) (at_ := 0) (l := l) (q := incQ key fld n)
        by_cases c0 : (oneE node seq 0 l (incQ key fld n)).2.2 = 0
        · obtain ⟨_, _, _, _, _, _, _, a4, _⟩ := oneE_ok c0
          obtain ⟨a1, a2, a3⟩ := a4 rfl
          have a3 : (oneE node seq 0 l (incQ key fld n)).1 = incE (incQ key fld n) node 0 l := a3
          have a2 : incBad (incQ key fld n) node seq 0 l = false := a2
          have em2 : makeE node seq l [incQ key fld n] = ([incE (incQ key fld n) node 0 l], 0) := by
            rw [em]
            simp [makeG, c0, a1, a3]
          rw [em2] at q2
          obtain ⟨f3, f0, f1, f2⟩ := counts hg a2
          have q3 := effDo l node seq [incE (incQ key fld n) node 0 l] (by omega) (by simp) (fun x hx => by
            rw [List.mem_singleton.1 hx]
            have := oneE_drops node seq 0 l (incQ key fld n)
            rw [a3] at this
            omega)
          have hd : doE node seq l [incE (incQ key fld n) node 0 l] = stepE node seq l (incE (incQ key fld n) node 0 l) := rfl
          rw [hd] at q3
          have hlen := stepE_len node seq l (incE (incQ key fld n) node 0 l)
          have q4 := vfield (stepE node seq l (incE (incQ key fld n) node 0 l)) key fld (by omega) (fun x hx => by
            rcases stepE_sub hx with hx | rfl
            · exact hw x hx
            · exact madeE_wf (I64_of (by omega) (by omega)) (I64_of (by omega) (by omega)) (I64_of (by simp [incE]) (by simp [incE])) (I64_of (by simp [incE]) (by simp [incE])) (tot_wf _))
          generalize fieldV (stepE node seq l (incE (incQ key fld n) node 0 l)) key fld = now at *
          generalize hwas : fieldV l key fld = was at *
          generalize stepE node seq l (incE (incQ key fld n) node 0 l) = next at *
          generalize incE (incQ key fld n) node 0 l = e at *
          have hv := fieldV_len l key fld
          rw [hwas] at hv
          have q5 := rsame ⟨was.f0, was.f1, now.f2, false⟩ now (by show was.f0.length < _; omega) (by show was.f1.length < _; omega)
          have e5 : (⟨was.f0, was.f1, now.f2, false⟩ : Val) = now := by
            obtain ⟨x0, x1, x2, x3⟩ := now
            simp only at f0 f1 f3
            rw [f0, f1, f3]
          rw [decide_eq_true e5] at q5
          have f2' : (was.f3 || decide (now.f2 = IntKind.i64.wrap (was.f2 + n))) = true := by
            rcases f2 with h | ⟨h, h2⟩
            · simp [h]
            · rw [wr _ h2.1 (by have := h2.2; omega), h]; simp
          simp [lQ, lE, encQ, encE, rI, pinN, ag, encV, f3] at q1 q2 q3 q4 q5
          rw [fn_run hL Try.func6 rfl L6 (by rfl) rfl rfl rfl (by decide)]
          simp [Try.f6, -seqK.eq_2, -finK.eq_3, -turnK.eq_2, -condK.eq_3, -ex_region, -ex_drawn, -drawK.eq_1, -drawK.eq_2, -ops_cons, -pure_cons, -up_cons, -upC.eq_1, -absPick, ex_regionL, ex_drawnL, drawK_p, drawK_u, ops_gT, pure_gT, up_gT, upR_eq, gT_n, gT_s, gU_s, gX_1, gX_0, gX_t, gW_tt, gW_ff, gW_tf, gW_ft, pick_val, pkD_t, pkD_f, seqK_x, seqK_r, turnK_x, turnK_r, seqK_br, blkK_br, turnK_br, finK_br, regK_br, upC_br, meet_n, meet_e, meet_st, meet_eff, meet_b, meet_i, meet_s, mgL_cons, mgL_nil, k0, k1, k2, e1, e2, e3, e4, q1, q2, q3, q4, q5, f3, f2', -Int.not_lt]
        · have em2 : makeE node seq l [incQ key fld n] = ([], (oneE node seq 0 l (incQ key fld n)).2.2) := by
            rw [em]
            simp [makeG, c0]
          rw [em2] at q2
          simp [lQ, lE, encQ, ag, encV] at q1 q2
          generalize (oneE node seq 0 l (incQ key fld n)).2.2 = b at *
          have hb2 : (decide (b = 5) || decide (b = 4)) = true := by simp; omega
          rw [fn_run hL Try.func6 rfl L6 (by rfl) rfl rfl rfl (by decide)]
          simp [Try.f6, -seqK.eq_2, -finK.eq_3, -turnK.eq_2, -condK.eq_3, -ex_region, -ex_drawn, -drawK.eq_1, -drawK.eq_2, -ops_cons, -pure_cons, -up_cons, -upC.eq_1, -absPick, ex_regionL, ex_drawnL, drawK_p, drawK_u, ops_gT, pure_gT, up_gT, upR_eq, gT_n, gT_s, gU_s, gX_1, gX_0, gX_t, gW_tt, gW_ff, gW_tf, gW_ft, pick_val, pkD_t, pkD_f, seqK_x, seqK_r, turnK_x, turnK_r, seqK_br, blkK_br, turnK_br, finK_br, regK_br, upC_br, meet_n, meet_e, meet_st, meet_eff, meet_b, meet_i, meet_s, mgL_cons, mgL_nil, k0, k1, k2, e1, e2, e3, e4, q1, q2, c0, hb2, -Int.not_lt]
end Go.E2.S
