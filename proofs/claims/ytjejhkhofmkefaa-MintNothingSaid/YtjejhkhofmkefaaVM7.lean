/- Requests: formed ones. -/
import Derived.Test.YtjejhkhofmkefaaVM6
import Derived.Test.YtjejhkhofmkefaaE14
namespace Go.E2.S
open Go Go.E2 Go.RowKit Go.Proofs
set_option linter.unusedVariables false
set_option linter.unusedSimpArgs false
set_option maxHeartbeats 4000000
set_option maxRecDepth 10000
/-- A request that is one. -/
def formedQ (q : Req) : Bool := keyB q.f1 && pfx q.f2 && decide (q.f3.size ≤ 32) &&
  (if q.f0 = 1 ∨ q.f0 = 2 ∨ q.f0 = 3 then decide (q.f4 = 0) else if q.f0 = 4 then decide (q.f3.size = 0) else if q.f0 = 5 then decide (q.f3.size = 0) && decide (q.f4 = 0) else false)
theorem pfx_key (s : ByteArray) : pfx s = (decide (s.size = 0) || keyB s) := by
  by_cases h : s.size = 0
  · have h1 : pfx s = true := by
      have e : bl s = [] := List.eq_nil_of_length_eq_zero (by rw [bl_len]; exact h)
      simp [pfx, h, e]
    simp [size_zero', h, h1]
  · simp [size_zero', keyB, h]
theorem mformed (q : Req) : A.fn 44 [ag (encQ q)] [] = some (.one (bv (formedQ q)), []) := by
  have h0 := zkey q.f1
  have h1 := zkey q.f2
  rw [fn_run hL Try.func44 rfl L44 (by rfl) rfl rfl rfl (by decide)]
  simp [Try.f44, -seqK.eq_2, -finK.eq_3, -turnK.eq_2, -condK.eq_3, -ex_region, -ex_drawn, -drawK.eq_1, -drawK.eq_2, -ops_cons, -pure_cons, -up_cons, -upC.eq_1, -absPick, ex_regionL, ex_drawnL, drawK_p, drawK_u, ops_gT, pure_gT, up_gT, upR_eq, gT_n, gT_s, gU_s, gX_1, gX_0, gX_t, gW_tt, gW_ff, gW_tf, gW_ft, pick_val, pkD_t, pkD_f, seqK_x, seqK_r, turnK_x, turnK_r, seqK_br, blkK_br, turnK_br, finK_br, regK_br, upC_br, meet_n, meet_e, meet_st, meet_eff, meet_b, meet_i, meet_s, mgL_cons, mgL_nil, size_zero', h0, h1]
  have e2 := size_zero q.f2
  have e3 := size_zero q.f3
  unfold formedQ
  rw [pfx_key]
  repeat' refine brB_is.2 ⟨fun _ => ?_, fun _ => ?_⟩
  all_goals grind
end Go.E2.S
