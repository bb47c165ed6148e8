/- Effects: formed ones. -/
import Derived.Test.YtjejhkhofmkefaaVM7
import Derived.Test.YtjejhkhofmkefaaVI10
namespace Go.E2.S
open Go Go.E2 Go.RowKit Go.Proofs
set_option linter.unusedVariables false
set_option linter.unusedSimpArgs false
set_option maxHeartbeats 4000000
set_option maxRecDepth 10000
def okDot (d : Dot) : Bool := rngB d.f0 0 7 && (rngB d.f1 1 1073741824 && rngB d.f2 0 7)
theorem effDot (d : Dot) : A.fn 120 [ag (encD d)] [] = some (.one (bv (okDot d)), []) := by
  rw [fn_run hL Try.func120 rfl L120 (by rfl) rfl rfl rfl (by decide)]
  simp [Try.f120, -seqK.eq_2, -finK.eq_3, -turnK.eq_2, -condK.eq_3, -ex_region, -ex_drawn, -drawK.eq_1, -drawK.eq_2, -ops_cons, -pure_cons, -up_cons, -upC.eq_1, -absPick, ex_regionL, ex_drawnL, drawK_p, drawK_u, ops_gT, pure_gT, up_gT, upR_eq, gT_n, gT_s, gU_s, gX_1, gX_0, gX_t, gW_tt, gW_ff, gW_tf, gW_ft, pick_val, pkD_t, pkD_f, seqK_x, seqK_r, turnK_x, turnK_r, seqK_br, blkK_br, turnK_br, finK_br, regK_br, upC_br, meet_n, meet_e, meet_st, meet_eff, meet_b, meet_i, meet_s, mgL_cons, mgL_nil]
  unfold okDot rngB
  grind
/-- For all places from one on, so many. -/
def allN (P : Nat → Bool) : Nat → Nat → Bool
  | _, 0 => true
  | i, n + 1 => P i && allN P (i + 1) n
theorem allN_iff (P : Nat → Bool) : ∀ n i, allN P i n = true ↔ ∀ j, i ≤ j → j < i + n → P j = true
  | 0, i => by simp [allN]; omega
  | n + 1, i => by
    rw [allN, Bool.and_eq_true, allN_iff P n (i + 1)]
    constructor
    · rintro ⟨h1, h2⟩ j hj hj2
      by_cases e : j = i
      · rw [e]; exact h1
      · exact h2 j (by omega) (by omega)
    · intro h
      exact ⟨h i (by omega) (by omega), fun j h1 h2 => h j (by omega) (by omega)⟩
def dAt (l : List Dot) (j : Nat) : Dot := l.getD j ⟨0, 0, 0⟩
theorem dAt_eq (l : List Dot) (j : Nat) (h : j < l.length) : dAt l j = l[j] := by
  unfold dAt
  rw [List.getD_eq_getElem?_getD, List.getElem?_eq_getElem h]
  rfl
/-- A dot that may be, and stands behind the one ahead of it. -/
def upD (l : List Dot) (j : Nat) : Bool := okDot (dAt l j) && (decide (j = 0) || decide (cmpD (dAt l (j - 1)) (dAt l j) < 0))
abbrev oE (e : Eff) : List Upd := [(2000, 0, some (.blk ((encE e).map .pv)))]
theorem eform_loop (node seq : Int) (e : Eff) (hl : e.f6.length < 1000000) (n : Nat) : ∀ i : Nat, e.f6.length = i + n →
    A.lp 89 0 (hd89_0 [iv node, iv seq, .at (.ptr 2000 0 0), pv (lD e.f6), iv e.f6.length, iv i] (oE e)) =
      some (if allN (upD e.f6) i n = true then (.exit 0, ex89_0 [iv node, iv seq, .at (.ptr 2000 0 0), nov] (oE e)) else (.ret, ex89_0 [iv node, iv seq, .at (.ptr 2000 0 0), bv false] (oE e))) := by
  induction n with
  | zero =>
    intro i hi
    rw [lp_run hL Try.func89 rfl (by rfl) 0 rfl]
    obtain rfl : i = e.f6.length := by omega
    simp [allN]
  | succ n ih =>
    intro i hi
    have h1 : i < e.f6.length := by omega
    have ih := ih (i + 1) (by omega)
    have q1 := effDot e.f6[i]
    have w1 : IntKind.i64.wrap ((i : Int) + 1) = i + 1 := wr _ (by omega) (by omega)
    rw [allN]
    have e1 := dAt_eq e.f6 i h1
    rw [lp_run hL Try.func89 rfl (by rfl) 0 rfl]
    by_cases i0 : i = 0
    · subst i0
      simp [ag, encD] at q1
      simp at ih w1
      simp [-seqK.eq_2, -finK.eq_3, -turnK.eq_2, -condK.eq_3, -ex_region, -ex_drawn, -drawK.eq_1, -drawK.eq_2, -ops_cons, -pure_cons, -up_cons, -upC.eq_1, -absPick, ex_regionL, ex_drawnL, drawK_p, drawK_u, ops_gT, pure_gT, up_gT, upR_eq, gT_n, gT_s, gU_s, gX_1, gX_0, gX_t, gW_tt, gW_ff, gW_tf, gW_ft, pick_val, pkD_t, pkD_f, seqK_x, seqK_r, turnK_x, turnK_r, seqK_br, blkK_br, turnK_br, finK_br, regK_br, upC_br, meet_n, meet_e, meet_st, meet_eff, meet_b, meet_i, meet_s, mgL_cons, mgL_nil, h1, q1, w1]
      repeat (rw [upC_ok ?q]; case q => kernel_rfl)
      simp [-seqK.eq_2, -finK.eq_3, -turnK.eq_2, -condK.eq_3, -ex_region, -ex_drawn, -drawK.eq_1, -drawK.eq_2, -ops_cons, -pure_cons, -up_cons, -upC.eq_1, -absPick, ex_regionL, ex_drawnL, drawK_p, drawK_u, ops_gT, pure_gT, up_gT, upR_eq, gT_n, gT_s, gU_s, gX_1, gX_0, gX_t, gW_tt, gW_ff, gW_tf, gW_ft, pick_val, pkD_t, pkD_f, seqK_x, seqK_r, turnK_x, turnK_r, seqK_br, blkK_br, turnK_br, finK_br, regK_br, upC_br, meet_n, meet_e, meet_st, meet_eff, meet_b, meet_i, meet_s, mgL_cons, mgL_nil, h1, q1, w1]
      simp only [ih, upD, e1]
      repeat' refine brB_is.2 ⟨fun _ => ?_, fun _ => ?_⟩
      all_goals grind
    · have i1 : 0 < i := by omega
      have h2 : i - 1 < e.f6.length := by omega
      have q2 := dotOrd e.f6[i - 1] e.f6[i]
      have w2 : IntKind.i64.wrap ((i : Int) - 1) = ((i - 1 : Nat) : Int) := by rw [wr _ (by omega) (by omega)]; omega
      have e2 := dAt_eq e.f6 (i - 1) h2
      simp [ag, encD] at q1 q2
      simp at ih
      simp [-seqK.eq_2, -finK.eq_3, -turnK.eq_2, -condK.eq_3, -ex_region, -ex_drawn, -drawK.eq_1, -drawK.eq_2, -ops_cons, -pure_cons, -up_cons, -upC.eq_1, -absPick, ex_regionL, ex_drawnL, drawK_p, drawK_u, ops_gT, pure_gT, up_gT, upR_eq, gT_n, gT_s, gU_s, gX_1, gX_0, gX_t, gW_tt, gW_ff, gW_tf, gW_ft, pick_val, pkD_t, pkD_f, seqK_x, seqK_r, turnK_x, turnK_r, seqK_br, blkK_br, turnK_br, finK_br, regK_br, upC_br, meet_n, meet_e, meet_st, meet_eff, meet_b, meet_i, meet_s, mgL_cons, mgL_nil, h1, h2, i1, q1, q2, w1, w2]
      repeat (rw [upC_ok ?q]; case q => kernel_rfl)
      simp [-seqK.eq_2, -finK.eq_3, -turnK.eq_2, -condK.eq_3, -ex_region, -ex_drawn, -drawK.eq_1, -drawK.eq_2, -ops_cons, -pure_cons, -up_cons, -upC.eq_1, -absPick, ex_regionL, ex_drawnL, drawK_p, drawK_u, ops_gT, pure_gT, up_gT, upR_eq, gT_n, gT_s, gU_s, gX_1, gX_0, gX_t, gW_tt, gW_ff, gW_tf, gW_ft, pick_val, pkD_t, pkD_f, seqK_x, seqK_r, turnK_x, turnK_r, seqK_br, blkK_br, turnK_br, finK_br, regK_br, upC_br, meet_n, meet_e, meet_st, meet_eff, meet_b, meet_i, meet_s, mgL_cons, mgL_nil, h1, h2, i1, q1, q2, w1, w2]
      simp only [ih, upD, e1, e2]
      repeat' refine brB_is.2 ⟨fun _ => ?_, fun _ => ?_⟩
      all_goals grind
def formedE (node seq : Int) (e : Eff) : Bool := decide (e.f6.length ≤ 64) && (allN (upD e.f6) 0 e.f6.length &&
  (if e.f3 = 0 then formedI ⟨e.f1, e.f2, 1, e.f4, e.f5, ⟨node, seq, e.f0⟩⟩ && (decide (e.f4.size = 0) && decide (0 < e.f6.length)) else formedI (madeE node seq e)))
theorem effFormed (node seq : Int) (e : Eff) (hl : e.f6.length < 1000000) : A.fn 89 [iv node, iv seq, ag (encE e)] [] = some (.one (bv (formedE node seq e)), []) := by
  have h := eform_loop node seq e hl e.f6.length 0 (by omega)
  have q1 := effMade node seq e
  have q2 := formed (madeE node seq e)
  have q3 := formed ⟨e.f1, e.f2, 1, e.f4, e.f5, ⟨node, seq, e.f0⟩⟩
  simp [ag, encE, encI, madeE] at q1 q2 q3
  simp [oE] at h
  unfold formedE madeE
  rw [fn_run hL Try.func89 rfl L89 (by rfl) rfl rfl rfl (by decide)]
  cases c : allN (upD e.f6) 0 e.f6.length
  all_goals
    rw [c] at h
    simp [Try.f89, -seqK.eq_2, -finK.eq_3, -turnK.eq_2, -condK.eq_3, -ex_region, -ex_drawn, -drawK.eq_1, -drawK.eq_2, -ops_cons, -pure_cons, -up_cons, -upC.eq_1, -absPick, ex_regionL, ex_drawnL, drawK_p, drawK_u, ops_gT, pure_gT, up_gT, upR_eq, gT_n, gT_s, gU_s, gX_1, gX_0, gX_t, gW_tt, gW_ff, gW_tf, gW_ft, pick_val, pkD_t, pkD_f, seqK_x, seqK_r, turnK_x, turnK_r, seqK_br, blkK_br, turnK_br, finK_br, regK_br, upC_br, meet_n, meet_e, meet_st, meet_eff, meet_b, meet_i, meet_s, mgL_cons, mgL_nil, size_zero', h, q1, q2, q3]
  clear h q1 q2 q3
  have e3 := size_zero e.f4
  repeat' refine brB_is.2 ⟨fun _ => ?_, fun _ => ?_⟩
  all_goals grind
end Go.E2.S
