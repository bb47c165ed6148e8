/- Well-formed items. -/
import Derived.Test.YtiliffhopdiepaaGreatVIb
import Derived.Test.YtiliffhopdiepaaGreatE14
namespace Go.E2.S
open Go Go.E2 Go.RowKit Go.Proofs
set_option linter.unusedVariables false
set_option linter.unusedSimpArgs false
set_option maxHeartbeats 4000000
set_option maxRecDepth 10000
def rngB (x lo hi : Int) : Bool := decide (lo ≤ x) && decide (x ≤ hi)
def kindB (x : Item) : Bool := (decide (x.f2 = 1) || decide (x.f2 = 2)) && decide (x.f4 = 0) || decide (x.f2 = 3) && decide (x.f3.size = 0)
def formedI (x : Item) : Bool := keyB x.f0 && (pfx x.f1 && (decide (x.f3.size ≤ 32) && (kindB x && (rngB x.f5.f0 0 7 && (rngB x.f5.f1 1 1073741824 && rngB x.f5.f2 0 7)))))
theorem pfx_zero (s : ByteArray) (h : s.size = 0) : pfx s = true := by
  have e : bl s = [] := List.eq_nil_of_length_eq_zero (by rw [bl_len]; exact h)
  simp [pfx, h, e]
theorem pfx_key (s : ByteArray) : pfx s = (decide (s.size = 0) || keyB s) := by
  by_cases h : s.size = 0
  · simp [h, pfx_zero]
  · simp [keyB, h]
theorem formed (x : Item) : A.fn 66 [ag (encI x)] [] = some (.one (bv (formedI x)), []) := by
  have h0 := zkey x.f0
  have h1 := zkey x.f1
  rw [fn_run hL Tryz.func66 rfl L66 (by rfl) rfl rfl rfl (by decide)]
  simp [Tryz.f66, -seqK.eq_2, -finK.eq_3, -turnK.eq_2, -condK.eq_3, -ex_region, -ex_drawn, -drawK.eq_1, -drawK.eq_2, -ops_cons, -pure_cons, -up_cons, -upC.eq_1, -absPick, ex_regionL, ex_drawnL, drawK_p, drawK_u, ops_gT, pure_gT, up_gT, upR_eq, gT_n, gT_s, gU_s, gX_1, gX_0, gX_t, gW_tt, gW_ff, gW_tf, gW_ft, pick_val, pkD_t, pkD_f, seqK_x, seqK_r, turnK_x, turnK_r, seqK_br, blkK_br, turnK_br, finK_br, regK_br, upC_br, meet_n, meet_e, meet_st, meet_eff, meet_b, meet_i, meet_s, mgL_cons, mgL_nil, size_zero', h0, h1]
  clear h0 h1
  have e1 := size_zero x.f1
  have e3 := size_zero x.f3
  unfold formedI kindB rngB
  rw [pfx_key]
  repeat' refine brB_is.2 ⟨fun _ => ?_, fun _ => ?_⟩
  all_goals (try refine res_b ?_)
  all_goals (try rw [Bool.eq_iff_iff])
  all_goals (try simp only [Bool.and_eq_true, Bool.or_eq_true, Bool.not_eq_true', Bool.and_eq_false_iff, Bool.or_eq_false_iff, Bool.not_eq_false', decide_eq_true_eq, decide_eq_false_iff_not] at *)
  all_goals grind
theorem rformed (x : Item) (b0 : x.f0.size ≤ 9223372036854775807) (b1 : x.f1.size ≤ 9223372036854775807) : A.fn 73 [ag (encI x)] [] = some (.one (bv (formedI x)), []) := by
  have h0 := rkey x.f0 b0
  have h1 := rprefix x.f1 b1
  have e3 := size_zero x.f3
  rw [fn_run hL Tryz.func73 rfl L73 (by rfl) rfl rfl rfl (by decide)]
  simp [Tryz.f73, -seqK.eq_2, -finK.eq_3, -turnK.eq_2, -condK.eq_3, -ex_region, -ex_drawn, -drawK.eq_1, -drawK.eq_2, -ops_cons, -pure_cons, -up_cons, -upC.eq_1, -absPick, ex_regionL, ex_drawnL, drawK_p, drawK_u, ops_gT, pure_gT, up_gT, upR_eq, gT_n, gT_s, gU_s, gX_1, gX_0, gX_t, gW_tt, gW_ff, gW_tf, gW_ft, pick_val, pkD_t, pkD_f, seqK_x, seqK_r, turnK_x, turnK_r, seqK_br, blkK_br, turnK_br, finK_br, regK_br, upC_br, meet_n, meet_e, meet_st, meet_eff, meet_b, meet_i, meet_s, mgL_cons, mgL_nil, h0, h1]
  clear h0 h1
  unfold formedI kindB rngB
  repeat' refine brB_is.2 ⟨fun _ => ?_, fun _ => ?_⟩
  all_goals (try refine res_b ?_)
  all_goals (try rw [Bool.eq_iff_iff])
  all_goals (try simp only [Bool.and_eq_true, Bool.or_eq_true, Bool.not_eq_true', Bool.and_eq_false_iff, Bool.or_eq_false_iff, Bool.not_eq_false', decide_eq_true_eq, decide_eq_false_iff_not] at *)
  all_goals grind
end Go.E2.S
