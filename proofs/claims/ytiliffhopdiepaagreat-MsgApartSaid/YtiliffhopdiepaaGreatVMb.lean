/- VMb: VM7, VM8, VM9, VM10, VM11. -/
import Derived.Test.YtiliffhopdiepaaGreatVMa
import Derived.Test.YtiliffhopdiepaaGreatE14
import Derived.Test.YtiliffhopdiepaaGreatVI10
import Derived.Test.YtiliffhopdiepaaGreatVFa
/-! Requests: formed ones. -/
namespace Go.E2.S
open Go Go.E2 Go.RowKit Go.Proofs
set_option linter.unusedVariables false
set_option linter.unusedSimpArgs false
set_option maxHeartbeats 4000000
set_option maxRecDepth 10000
/-- A request that is one. -/
def formedQ (q : Req) : Bool := keyB q.f1 && pfx q.f2 && decide (q.f3.size ≤ 32) &&
  (if q.f0 = 1 ∨ q.f0 = 2 ∨ q.f0 = 3 then decide (q.f4 = 0) else if q.f0 = 4 then decide (q.f3.size = 0) else if q.f0 = 5 then decide (q.f3.size = 0) && decide (q.f4 = 0) else false)
end Go.E2.S
/-! Effects: formed ones. -/
namespace Go.E2.S
open Go Go.E2 Go.RowKit Go.Proofs
set_option linter.unusedVariables false
set_option linter.unusedSimpArgs false
set_option maxHeartbeats 4000000
set_option maxRecDepth 10000
def okDot (d : Dot) : Bool := rngB d.f0 0 7 && (rngB d.f1 1 1073741824 && rngB d.f2 0 7)
theorem effDot (d : Dot) : A.fn 239 [ag (encD d)] [] = some (.one (bv (okDot d)), []) := by
  rw [fn_run hL Tryz.func239 rfl L239 (by rfl) rfl rfl rfl (by decide)]
  simp [Tryz.f239, -seqK.eq_2, -finK.eq_3, -turnK.eq_2, -condK.eq_3, -ex_region, -ex_drawn, -drawK.eq_1, -drawK.eq_2, -ops_cons, -pure_cons, -up_cons, -upC.eq_1, -absPick, ex_regionL, ex_drawnL, drawK_p, drawK_u, ops_gT, pure_gT, up_gT, upR_eq, gT_n, gT_s, gU_s, gX_1, gX_0, gX_t, gW_tt, gW_ff, gW_tf, gW_ft, pick_val, pkD_t, pkD_f, seqK_x, seqK_r, turnK_x, turnK_r, seqK_br, blkK_br, turnK_br, finK_br, regK_br, upC_br, meet_n, meet_e, meet_st, meet_eff, meet_b, meet_i, meet_s, mgL_cons, mgL_nil]
  unfold okDot rngB
  grind
/-- For all places from one on, so many. -/
def allN (P : Nat → Bool) : Nat → Nat → Bool
  | _, 0 => true
  | i, n + 1 => P i && allN P (i + 1) n
theorem allN_iff (P : Nat → Bool) : ∀ n i, allN P i n = true ↔ ∀ j, i ≤ j → j < i + n → P j = true
  | 0, i => by simp [allN]; omega
  | n + 1, i => by
    rw [allN, Bool.and_eq_true, allN_iff P n (i + 1)]
    constructor
    · rintro ⟨h1, h2⟩ j hj hj2
      by_cases e : j = i
      · rw [e]; exact h1
      · exact h2 j (by omega) (by omega)
    · intro h
      exact ⟨h i (by omega) (by omega), fun j h1 h2 => h j (by omega) (by omega)⟩
def dAt (l : List Dot) (j : Nat) : Dot := l.getD j ⟨0, 0, 0⟩
theorem dAt_eq (l : List Dot) (j : Nat) (h : j < l.length) : dAt l j = l[j] := by
  unfold dAt
  rw [List.getD_eq_getElem?_getD, List.getElem?_eq_getElem h]
  rfl
/-- A dot that may be, and stands behind the one ahead of it. -/
def upD (l : List Dot) (j : Nat) : Bool := okDot (dAt l j) && (decide (j = 0) || decide (cmpD (dAt l (j - 1)) (dAt l j) < 0))
abbrev oE (e : Eff) : List Upd := [(2000, 0, some (.blk ((encE e).map .pv)))]
theorem eform_loop (node seq : Int) (e : Eff) (hl : e.f6.length < 1000000) (n : Nat) : ∀ i : Nat, e.f6.length = i + n →
    A.lp 206 0 (hd206_0 [iv node, iv seq, .at (.ptr 2000 0 0), pv (lD e.f6), iv e.f6.length, iv i] (oE e)) =
      some (if allN (upD e.f6) i n = true then (.exit 0, ex206_0 [iv node, iv seq, .at (.ptr 2000 0 0), nov] (oE e)) else (.ret, ex206_0 [iv node, iv seq, .at (.ptr 2000 0 0), bv false] (oE e))) := by
  induction n with
  | zero =>
    intro i hi
    rw [lp_run hL Tryz.func206 rfl (by rfl) 0 rfl]
    obtain rfl : i = e.f6.length := by omega
    simp [allN]
  | succ n ih =>
    intro i hi
    have h1 : i < e.f6.length := by omega
    have ih := ih (i + 1) (by omega)
    have q1 := effDot e.f6[i]
    have w1 : IntKind.i64.wrap ((i : Int) + 1) = i + 1 := wr _ (by omega) (by omega)
    rw [allN]
    have e1 := dAt_eq e.f6 i h1
    rw [lp_run hL Tryz.func206 rfl (by rfl) 0 rfl]
    by_cases i0 : i = 0
    · subst i0
      simp [ag, encD] at q1
      simp at ih w1
      simp [-seqK.eq_2, -finK.eq_3, -turnK.eq_2, -condK.eq_3, -ex_region, -ex_drawn, -drawK.eq_1, -drawK.eq_2, -ops_cons, -pure_cons, -up_cons, -upC.eq_1, -absPick, ex_regionL, ex_drawnL, drawK_p, drawK_u, ops_gT, pure_gT, up_gT, upR_eq, gT_n, gT_s, gU_s, gX_1, gX_0, gX_t, gW_tt, gW_ff, gW_tf, gW_ft, pick_val, pkD_t, pkD_f, seqK_x, seqK_r, turnK_x, turnK_r, seqK_br, blkK_br, turnK_br, finK_br, regK_br, upC_br, meet_n, meet_e, meet_st, meet_eff, meet_b, meet_i, meet_s, mgL_cons, mgL_nil, h1, q1, w1]
      repeat (rw [upC_ok ?q]; case q => kernel_rfl)
      simp [-seqK.eq_2, -finK.eq_3, -turnK.eq_2, -condK.eq_3, -ex_region, -ex_drawn, -drawK.eq_1, -drawK.eq_2, -ops_cons, -pure_cons, -up_cons, -upC.eq_1, -absPick, ex_regionL, ex_drawnL, drawK_p, drawK_u, ops_gT, pure_gT, up_gT, upR_eq, gT_n, gT_s, gU_s, gX_1, gX_0, gX_t, gW_tt, gW_ff, gW_tf, gW_ft, pick_val, pkD_t, pkD_f, seqK_x, seqK_r, turnK_x, turnK_r, seqK_br, blkK_br, turnK_br, finK_br, regK_br, upC_br, meet_n, meet_e, meet_st, meet_eff, meet_b, meet_i, meet_s, mgL_cons, mgL_nil, h1, q1, w1]
      simp only [ih, upD, e1]
      repeat' refine brB_is.2 ⟨fun _ => ?_, fun _ => ?_⟩
      all_goals grind
    · have i1 : 0 < i := by omega
      have h2 : i - 1 < e.f6.length := by omega
      have q2 := dotOrd e.f6[i - 1] e.f6[i]
      have w2 : IntKind.i64.wrap ((i : Int) - 1) = ((i - 1 : Nat) : Int) := by rw [wr _ (by omega) (by omega)]; omega
      have e2 := dAt_eq e.f6 (i - 1) h2
      simp [ag, encD] at q1 q2
      simp at ih
      simp [-seqK.eq_2, -finK.eq_3, -turnK.eq_2, -condK.eq_3, -ex_region, -ex_drawn, -drawK.eq_1, -drawK.eq_2, -ops_cons, -pure_cons, -up_cons, -upC.eq_1, -absPick, ex_regionL, ex_drawnL, drawK_p, drawK_u, ops_gT, pure_gT, up_gT, upR_eq, gT_n, gT_s, gU_s, gX_1, gX_0, gX_t, gW_tt, gW_ff, gW_tf, gW_ft, pick_val, pkD_t, pkD_f, seqK_x, seqK_r, turnK_x, turnK_r, seqK_br, blkK_br, turnK_br, finK_br, regK_br, upC_br, meet_n, meet_e, meet_st, meet_eff, meet_b, meet_i, meet_s, mgL_cons, mgL_nil, h1, h2, i1, q1, q2, w1, w2]
      repeat (rw [upC_ok ?q]; case q => kernel_rfl)
      simp [-seqK.eq_2, -finK.eq_3, -turnK.eq_2, -condK.eq_3, -ex_region, -ex_drawn, -drawK.eq_1, -drawK.eq_2, -ops_cons, -pure_cons, -up_cons, -upC.eq_1, -absPick, ex_regionL, ex_drawnL, drawK_p, drawK_u, ops_gT, pure_gT, up_gT, upR_eq, gT_n, gT_s, gU_s, gX_1, gX_0, gX_t, gW_tt, gW_ff, gW_tf, gW_ft, pick_val, pkD_t, pkD_f, seqK_x, seqK_r, turnK_x, turnK_r, seqK_br, blkK_br, turnK_br, finK_br, regK_br, upC_br, meet_n, meet_e, meet_st, meet_eff, meet_b, meet_i, meet_s, mgL_cons, mgL_nil, h1, h2, i1, q1, q2, w1, w2]
      simp only [ih, upD, e1, e2]
      repeat' refine brB_is.2 ⟨fun _ => ?_, fun _ => ?_⟩
      all_goals grind
def formedE (node seq : Int) (e : Eff) : Bool := decide (e.f6.length ≤ 64) && (allN (upD e.f6) 0 e.f6.length &&
  (if e.f3 = 0 then formedI ⟨e.f1, e.f2, 1, e.f4, e.f5, ⟨node, seq, e.f0⟩⟩ && (decide (e.f4.size = 0) && decide (0 < e.f6.length)) else formedI (madeE node seq e)))
theorem effFormed (node seq : Int) (e : Eff) (hl : e.f6.length < 1000000) : A.fn 206 [iv node, iv seq, ag (encE e)] [] = some (.one (bv (formedE node seq e)), []) := by
  have h := eform_loop node seq e hl e.f6.length 0 (by omega)
  have q1 := effMade node seq e
  have q2 := formed (madeE node seq e)
  have q3 := formed ⟨e.f1, e.f2, 1, e.f4, e.f5, ⟨node, seq, e.f0⟩⟩
  simp [ag, encE, encI, madeE] at q1 q2 q3
  simp [oE] at h
  unfold formedE madeE
  rw [fn_run hL Tryz.func206 rfl L206 (by rfl) rfl rfl rfl (by decide)]
  cases c : allN (upD e.f6) 0 e.f6.length
  all_goals
    rw [c] at h
    simp [Tryz.f206, -seqK.eq_2, -finK.eq_3, -turnK.eq_2, -condK.eq_3, -ex_region, -ex_drawn, -drawK.eq_1, -drawK.eq_2, -ops_cons, -pure_cons, -up_cons, -upC.eq_1, -absPick, ex_regionL, ex_drawnL, drawK_p, drawK_u, ops_gT, pure_gT, up_gT, upR_eq, gT_n, gT_s, gU_s, gX_1, gX_0, gX_t, gW_tt, gW_ff, gW_tf, gW_ft, pick_val, pkD_t, pkD_f, seqK_x, seqK_r, turnK_x, turnK_r, seqK_br, blkK_br, turnK_br, finK_br, regK_br, upC_br, meet_n, meet_e, meet_st, meet_eff, meet_b, meet_i, meet_s, mgL_cons, mgL_nil, size_zero', h, q1, q2, q3]
  clear h q1 q2 q3
  have e3 := size_zero e.f4
  repeat' refine brB_is.2 ⟨fun _ => ?_, fun _ => ?_⟩
  all_goals grind
end Go.E2.S
/-! Effects that are right; requests that are all formed. -/
namespace Go.E2.S
open Go Go.E2 Go.RowKit Go.Proofs
set_option linter.unusedVariables false
set_option linter.unusedSimpArgs false
set_option maxHeartbeats 4000000
set_option maxRecDepth 10000
/-- Is a dot one of the effect's own transaction, from the effect on? -/
def ownD (node seq : Int) (e : Eff) (d : Dot) : Bool := decide (d.f0 = node) && (decide (d.f1 = seq) && decide (e.f0 ≤ d.f2))
theorem effRight1 (node seq : Int) (e : Eff) (d : Dot) : A.fn 208 [ag (encD d), pv (.ref [.int .i64 node]), pv (.ref [.int .i64 seq]), pv (.ref (encE e))] [] = some (.one (bv (ownD node seq e d)), []) := by
  rw [fn_run hL Tryz.func208 rfl L208 (by rfl) rfl rfl rfl (by decide)]
  simp [Tryz.f208, -seqK.eq_2, -finK.eq_3, -turnK.eq_2, -condK.eq_3, -ex_region, -ex_drawn, -drawK.eq_1, -drawK.eq_2, -ops_cons, -pure_cons, -up_cons, -upC.eq_1, -absPick, ex_regionL, ex_drawnL, drawK_p, drawK_u, ops_gT, pure_gT, up_gT, upR_eq, gT_n, gT_s, gU_s, gX_1, gX_0, gX_t, gW_tt, gW_ff, gW_tf, gW_ft, pick_val, pkD_t, pkD_f, seqK_x, seqK_r, turnK_x, turnK_r, seqK_br, blkK_br, turnK_br, finK_br, regK_br, upC_br, meet_n, meet_e, meet_st, meet_eff, meet_b, meet_i, meet_s, mgL_cons, mgL_nil, ownD]
def eAt (l : List Eff) (j : Nat) : Eff := l.getD j ⟨0, ⟨#[]⟩, ⟨#[]⟩, 0, ⟨#[]⟩, 0, []⟩
theorem eAt_eq (l : List Eff) (j : Nat) (h : j < l.length) : eAt l j = l[j] := by
  unfold eAt
  rw [List.getD_eq_getElem?_getD, List.getElem?_eq_getElem h]
  rfl
def rightN (node seq : Int) (l : List Eff) (j : Nat) : Bool := formedE node seq (eAt l j) && ((decide (j = 0) || decide ((eAt l (j - 1)).f0 < (eAt l j).f0)) && !((eAt l j).f6.any (ownD node seq (eAt l j))))
def rightE (node seq : Int) (l : List Eff) : Bool := allN (rightN node seq l) 0 l.length
abbrev oR (node seq : Int) : List Upd := [(2000, 0, some (.blk [.pv (.int .i64 node)])), (2001, 0, some (.blk [.pv (.int .i64 seq)]))]
theorem right_loop (node seq : Int) (l : List Eff) (hl : l.length < 1000000) (hd : ∀ e ∈ l, e.f6.length < 1000000) (n : Nat) : ∀ i : Nat, l.length = i + n →
    A.lp 148 0 (hd148_0 [pv (lE l), pv (.ref [.int .i64 node]), pv (.ref [.int .i64 seq]), pv (lE l), iv l.length, iv i] []) =
      some (if allN (rightN node seq l) i n = true then (.exit 0, ex148_0 [nov] []) else (.ret, ex148_0 [bv false] [])) := by
  induction n with
  | zero =>
    intro i hi
    rw [lp_run hL Tryz.func148 rfl (by rfl) 0 rfl]
    obtain rfl : i = l.length := by omega
    simp [allN]
  | succ n ih =>
    intro i hi
    have h1 : i < l.length := by omega
    have ih := ih (i + 1) (by omega)
    have hm := hd _ (List.getElem_mem h1)
    have q1 := effFormed node seq l[i] hm
    have q2 := hasDf l[i].f6 208 [.ref [.int .i64 node], .ref [.int .i64 seq], .ref (encE l[i])] (ownD node seq l[i]) (by simp) (by omega) fun x _ => effRight1 node seq l[i] x
    have w1 : IntKind.i64.wrap ((i : Int) + 1) = i + 1 := wr _ (by omega) (by omega)
    rw [allN]
    have e1 := eAt_eq l i h1
    rw [lp_run hL Tryz.func148 rfl (by rfl) 0 rfl]
    simp [ag, encE] at q1 q2
    by_cases i0 : i = 0
    · subst i0
      simp at ih w1
      simp [-seqK.eq_2, -finK.eq_3, -turnK.eq_2, -condK.eq_3, -ex_region, -ex_drawn, -drawK.eq_1, -drawK.eq_2, -ops_cons, -pure_cons, -up_cons, -upC.eq_1, -absPick, ex_regionL, ex_drawnL, drawK_p, drawK_u, ops_gT, pure_gT, up_gT, upR_eq, gT_n, gT_s, gU_s, gX_1, gX_0, gX_t, gW_tt, gW_ff, gW_tf, gW_ft, pick_val, pkD_t, pkD_f, seqK_x, seqK_r, turnK_x, turnK_r, seqK_br, blkK_br, turnK_br, finK_br, regK_br, upC_br, meet_n, meet_e, meet_st, meet_eff, meet_b, meet_i, meet_s, mgL_cons, mgL_nil, h1, q1, q2, w1]
      repeat (rw [upC_ok ?q]; case q => kernel_rfl)
      simp [-seqK.eq_2, -finK.eq_3, -turnK.eq_2, -condK.eq_3, -ex_region, -ex_drawn, -drawK.eq_1, -drawK.eq_2, -ops_cons, -pure_cons, -up_cons, -upC.eq_1, -absPick, ex_regionL, ex_drawnL, drawK_p, drawK_u, ops_gT, pure_gT, up_gT, upR_eq, gT_n, gT_s, gU_s, gX_1, gX_0, gX_t, gW_tt, gW_ff, gW_tf, gW_ft, pick_val, pkD_t, pkD_f, seqK_x, seqK_r, turnK_x, turnK_r, seqK_br, blkK_br, turnK_br, finK_br, regK_br, upC_br, meet_n, meet_e, meet_st, meet_eff, meet_b, meet_i, meet_s, mgL_cons, mgL_nil, h1, q1, q2, w1, ih, rightN, e1]
      clear ih q1 q2 w1 hd
      repeat' refine brB_is.2 ⟨fun _ => ?_, fun _ => ?_⟩
      all_goals grind
    · have i1 : 0 < i := by omega
      have h2 : i - 1 < l.length := by omega
      have w2 : IntKind.i64.wrap ((i : Int) - 1) = ((i - 1 : Nat) : Int) := by rw [wr _ (by omega) (by omega)]; omega
      have e2 := eAt_eq l (i - 1) h2
      simp at ih
      simp [-seqK.eq_2, -finK.eq_3, -turnK.eq_2, -condK.eq_3, -ex_region, -ex_drawn, -drawK.eq_1, -drawK.eq_2, -ops_cons, -pure_cons, -up_cons, -upC.eq_1, -absPick, ex_regionL, ex_drawnL, drawK_p, drawK_u, ops_gT, pure_gT, up_gT, upR_eq, gT_n, gT_s, gU_s, gX_1, gX_0, gX_t, gW_tt, gW_ff, gW_tf, gW_ft, pick_val, pkD_t, pkD_f, seqK_x, seqK_r, turnK_x, turnK_r, seqK_br, blkK_br, turnK_br, finK_br, regK_br, upC_br, meet_n, meet_e, meet_st, meet_eff, meet_b, meet_i, meet_s, mgL_cons, mgL_nil, h1, h2, i1, q1, q2, w1, w2]
      repeat (rw [upC_ok ?q]; case q => kernel_rfl)
      simp [-seqK.eq_2, -finK.eq_3, -turnK.eq_2, -condK.eq_3, -ex_region, -ex_drawn, -drawK.eq_1, -drawK.eq_2, -ops_cons, -pure_cons, -up_cons, -upC.eq_1, -absPick, ex_regionL, ex_drawnL, drawK_p, drawK_u, ops_gT, pure_gT, up_gT, upR_eq, gT_n, gT_s, gU_s, gX_1, gX_0, gX_t, gW_tt, gW_ff, gW_tf, gW_ft, pick_val, pkD_t, pkD_f, seqK_x, seqK_r, turnK_x, turnK_r, seqK_br, blkK_br, turnK_br, finK_br, regK_br, upC_br, meet_n, meet_e, meet_st, meet_eff, meet_b, meet_i, meet_s, mgL_cons, mgL_nil, h1, h2, i1, q1, q2, w1, w2, ih, rightN, e1, e2]
      clear ih q1 q2 w1 w2 hd
      repeat' refine brB_is.2 ⟨fun _ => ?_, fun _ => ?_⟩
      all_goals grind
theorem right_loop0 (node seq : Int) (l : List Eff) (hl : l.length < 1000000) (hd : ∀ e ∈ l, e.f6.length < 1000000) :
    A.lp 148 0 (hd148_0 [pv (lE l), .at (.ptr 2000 0 0), .at (.ptr 2001 0 0), pv (lE l), iv l.length, iv 0] (oR node seq)) =
      some (if allN (rightN node seq l) 0 l.length = true then (.exit 0, ex148_0 [nov] []) else (.ret, ex148_0 [bv false] [])) := by
  obtain ⟨m, hm⟩ : ∃ m, l.length = m := ⟨_, rfl⟩
  cases m with
  | zero =>
    rw [lp_run hL Tryz.func148 rfl (by rfl) 0 rfl]
    simp [hm, allN]
  | succ n =>
    have h1 : 0 < l.length := by omega
    have ih := right_loop node seq l hl hd n 1 (by omega)
    have hm' := hd _ (List.getElem_mem h1)
    have q1 := effFormed node seq l[0] hm'
    have q2 := hasDf l[0].f6 208 [.ref [.int .i64 node], .ref [.int .i64 seq], .ref (encE l[0])] (ownD node seq l[0]) (by simp) (by omega) fun x _ => effRight1 node seq l[0] x
    have w1 : IntKind.i64.wrap (1 : Int) = 1 := wr _ (by omega) (by omega)
    rw [hm, allN, ← hm]
    have e1 := eAt_eq l 0 h1
    rw [lp_run hL Tryz.func148 rfl (by rfl) 0 rfl]
    simp [ag, encE] at q1 q2
    simp at ih w1
    simp [-seqK.eq_2, -finK.eq_3, -turnK.eq_2, -condK.eq_3, -ex_region, -ex_drawn, -drawK.eq_1, -drawK.eq_2, -ops_cons, -pure_cons, -up_cons, -upC.eq_1, -absPick, ex_regionL, ex_drawnL, drawK_p, drawK_u, ops_gT, pure_gT, up_gT, upR_eq, gT_n, gT_s, gU_s, gX_1, gX_0, gX_t, gW_tt, gW_ff, gW_tf, gW_ft, pick_val, pkD_t, pkD_f, seqK_x, seqK_r, turnK_x, turnK_r, seqK_br, blkK_br, turnK_br, finK_br, regK_br, upC_br, meet_n, meet_e, meet_st, meet_eff, meet_b, meet_i, meet_s, mgL_cons, mgL_nil, h1, q1, q2, w1]
    repeat (rw [upC_ok ?q]; case q => kernel_rfl)
    simp [-seqK.eq_2, -finK.eq_3, -turnK.eq_2, -condK.eq_3, -ex_region, -ex_drawn, -drawK.eq_1, -drawK.eq_2, -ops_cons, -pure_cons, -up_cons, -upC.eq_1, -absPick, ex_regionL, ex_drawnL, drawK_p, drawK_u, ops_gT, pure_gT, up_gT, upR_eq, gT_n, gT_s, gU_s, gX_1, gX_0, gX_t, gW_tt, gW_ff, gW_tf, gW_ft, pick_val, pkD_t, pkD_f, seqK_x, seqK_r, turnK_x, turnK_r, seqK_br, blkK_br, turnK_br, finK_br, regK_br, upC_br, meet_n, meet_e, meet_st, meet_eff, meet_b, meet_i, meet_s, mgL_cons, mgL_nil, h1, q1, q2, w1, ih, rightN, e1]
    clear ih q1 q2 w1 hd
    repeat' refine brB_is.2 ⟨fun _ => ?_, fun _ => ?_⟩
    all_goals grind
theorem effRight (node seq : Int) (l : List Eff) (hl : l.length < 1000000) (hd : ∀ e ∈ l, e.f6.length < 1000000) : A.fn 148 [iv node, iv seq, pv (lE l)] [] = some (.one (bv (rightE node seq l)), []) := by
  have h := right_loop0 node seq l hl hd
  unfold rightE
  rw [fn_run hL Tryz.func148 rfl L148 (by rfl) rfl rfl rfl (by decide)]
  simp [oR] at h
  cases c : allN (rightN node seq l) 0 l.length
  all_goals
    rw [c] at h
    simp [Tryz.f148, -seqK.eq_2, -finK.eq_3, -turnK.eq_2, -condK.eq_3, -ex_region, -ex_drawn, -drawK.eq_1, -drawK.eq_2, -ops_cons, -pure_cons, -up_cons, -upC.eq_1, -absPick, ex_regionL, ex_drawnL, drawK_p, drawK_u, ops_gT, pure_gT, up_gT, upR_eq, gT_n, gT_s, gU_s, gX_1, gX_0, gX_t, gW_tt, gW_ff, gW_tf, gW_ft, pick_val, pkD_t, pkD_f, seqK_x, seqK_r, turnK_x, turnK_r, seqK_br, blkK_br, turnK_br, finK_br, regK_br, upC_br, meet_n, meet_e, meet_st, meet_eff, meet_b, meet_i, meet_s, mgL_cons, mgL_nil, h]
end Go.E2.S
/-! mint.Make. -/
namespace Go.E2.S
open Go Go.E2 Go.RowKit Go.Proofs
set_option linter.unusedVariables false
set_option linter.unusedSimpArgs false
set_option maxHeartbeats 4000000
set_option maxRecDepth 10000
/-- What one request comes to: its effect, does it do something, its error. -/
def oneE (node seq at_ : Int) (l : List Item) (q : Req) : Eff × Bool × Int :=
  if 64 < (dropsL q node l).length then (eff0, false, 4)
  else if q.f0 = 1 then (⟨at_, q.f1, q.f2, 1, q.f3, 0, dropsL q node l⟩, true, 0)
  else if q.f0 = 3 then (⟨at_, q.f1, q.f2, 2, q.f3, 0, dropsL q node l⟩, true, 0)
  else if q.f0 = 4 then (if incBad q node seq at_ l = true then (eff0, false, 5) else (incE q node at_ l, true, 0))
  else (⟨at_, q.f1, q.f2, 0, ⟨#[]⟩, 0, dropsL q node l⟩, decide (0 < (dropsL q node l).length), 0)
/-- A request's numbers are such as Go's types have. -/
def WfQ (q : Req) : Prop := I64 q.f0 ∧ I64 q.f4
theorem oneE_drops (node seq at_ : Int) (l : List Item) (q : Req) : (oneE node seq at_ l q).1.f6.length ≤ 64 := by
  unfold oneE
  split
  · simp [eff0]
  · split
    · simp; omega
    · split
      · simp; omega
      · split
        · split
          · simp [eff0]
          · simp [incE]; omega
        · simp; omega
theorem oneE_wf {node seq at_ : Int} {l : List Item} {q : Req} (ha : I64 at_) : I64 (oneE node seq at_ l q).1.f0 ∧ I64 (oneE node seq at_ l q).1.f3 ∧ I64 (oneE node seq at_ l q).1.f5 := by
  have z : I64 0 := by unfold I64; omega
  have z1 : I64 1 := by unfold I64; omega
  have z2 : I64 2 := by unfold I64; omega
  have z3 : I64 3 := by unfold I64; omega
  unfold oneE
  split
  · exact ⟨z, z, z⟩
  · split
    · exact ⟨ha, z1, z⟩
    · split
      · exact ⟨ha, z2, z⟩
      · split
        · split
          · exact ⟨z, z, z⟩
          · exact ⟨ha, z3, tot_wf _⟩
        · exact ⟨ha, z, z⟩
/-- Requests, one behind the other. -/
def makeG (node seq : Int) : Nat → List Item → List Eff → List Req → List Eff × Int
  | _, _, out, [] => (out, 0)
  | i, items, out, q :: l => if (oneE node seq i items q).2.2 = 0 then
      (if (oneE node seq i items q).2.1 = true then makeG node seq (i + 1) (doE node seq items [(oneE node seq i items q).1]) (out ++ [(oneE node seq i items q).1]) l else makeG node seq (i + 1) items out l)
    else ([], (oneE node seq i items q).2.2)
abbrev rE (l : List Eff) : AObj := .row true 7 (l.map encE)
theorem makeG_err (node seq : Int) : ∀ (l : List Req) (i : Nat) (items : List Item) (out : List Eff), (makeG node seq i items out l).2 ≠ 0 → (makeG node seq i items out l).1 = []
  | [], _, _, _, h => by simp [makeG] at h
  | q :: l, i, items, out, h => by
    rw [makeG] at h ⊢
    split at h
    · rename_i c
      rw [if_pos c]
      split at h
      · rename_i c2
        rw [if_pos c2]
        exact makeG_err node seq l _ _ _ h
      · rename_i c2
        rw [if_neg c2]
        exact makeG_err node seq l _ _ _ h
    · rename_i c
      rw [if_neg c]
def makeE (node seq : Int) (items : List Item) (l : List Req) : List Eff × Int :=
  if node < 0 ∨ 8 ≤ node ∨ seq < 1 ∨ 1073741824 < seq then ([], 1)
  else if 8 < l.length then ([], 4)
  else if (l.any fun q => !formedQ q) = true then ([], 2)
  else makeG node seq 0 items [] l
end Go.E2.S
/-! Chapter 12: the layer is awake; usual items; MintNothing. -/
namespace Go.E2.S
open Go Go.E2 Go.RowKit Go.Proofs
set_option linter.unusedVariables false
set_option linter.unusedSimpArgs false
set_option maxHeartbeats 4000000
set_option maxRecDepth 10000
theorem dot_ne (a b : Dot) : (!decide (a.f0 = b.f0) || (!decide (a.f1 = b.f1) || !decide (a.f2 = b.f2))) = !decide (a = b) := by
  rw [← dot_ext]; simp [Bool.not_and]
theorem sameD_loop (a b : List Dot) (hl : a.length = b.length) (ha : a.length < 1000000000) (n : Nat) : ∀ i : Nat, a.length = i + n →
    A.lp 211 0 (hd211_0 [pv (lD a), pv (lD b), iv i] []) = some (if a.drop i = b.drop i then (.exit 0, ex211_0 [nov] []) else (.ret, ex211_0 [bv false] [])) := by
  induction n with
  | zero =>
    intro i hi
    rw [lp_run hL Tryz.func211 rfl (by rfl) 0 rfl]
    obtain rfl : i = a.length := by omega
    rw [List.drop_of_length_le (Nat.le_refl _), List.drop_of_length_le (by omega)]
    simp
  | succ n ih =>
    intro i hi
    have h1 : i < a.length := by omega
    have h2 : i < b.length := by omega
    have ih := ih (i + 1) (by omega)
    have w1 : IntKind.i64.wrap ((i : Int) + 1) = i + 1 := wr _ (by omega) (by omega)
    have e := drop_eq a b i h1 h2
    rw [lp_run hL Tryz.func211 rfl (by rfl) 0 rfl]
    simp at ih
    by_cases c : a[i] = b[i]
    · have c' := eq_true c
      simp [-seqK.eq_2, -finK.eq_3, -turnK.eq_2, -condK.eq_3, -ex_region, -ex_drawn, -drawK.eq_1, -drawK.eq_2, -ops_cons, -pure_cons, -up_cons, -upC.eq_1, -absPick, ex_regionL, ex_drawnL, drawK_p, drawK_u, ops_gT, pure_gT, up_gT, upR_eq, gT_n, gT_s, gU_s, gX_1, gX_0, gX_t, gW_tt, gW_ff, gW_tf, gW_ft, pick_val, pkD_t, pkD_f, seqK_x, seqK_r, turnK_x, turnK_r, seqK_br, blkK_br, turnK_br, finK_br, regK_br, upC_br, meet_n, meet_e, meet_st, meet_eff, meet_b, meet_i, meet_s, mgL_cons, mgL_nil, h1, h2, w1, dot_ext, dot_ne, e, c, c', ih]
    · have c' := eq_false c
      simp [-seqK.eq_2, -finK.eq_3, -turnK.eq_2, -condK.eq_3, -ex_region, -ex_drawn, -drawK.eq_1, -drawK.eq_2, -ops_cons, -pure_cons, -up_cons, -upC.eq_1, -absPick, ex_regionL, ex_drawnL, drawK_p, drawK_u, ops_gT, pure_gT, up_gT, upR_eq, gT_n, gT_s, gU_s, gX_1, gX_0, gX_t, gW_tt, gW_ff, gW_tf, gW_ft, pick_val, pkD_t, pkD_f, seqK_x, seqK_r, turnK_x, turnK_r, seqK_br, blkK_br, turnK_br, finK_br, regK_br, upC_br, meet_n, meet_e, meet_st, meet_eff, meet_b, meet_i, meet_s, mgL_cons, mgL_nil, h1, h2, w1, dot_ext, dot_ne, e, c, c']
theorem sameD (a b : List Dot) (ha : a.length < 1000000000) : A.fn 211 [pv (lD a), pv (lD b)] [] = some (.one (bv (decide (a = b))), []) := by
  rw [fn_run hL Tryz.func211 rfl L211 (by rfl) rfl rfl rfl (by decide)]
  by_cases hl : a.length = b.length
  · have h := sameD_loop a b hl ha a.length 0 (by omega)
    simp at h
    by_cases c : a = b
    · have c' := eq_true c
      simp [c'] at h
      simp [Tryz.f211, -seqK.eq_2, -finK.eq_3, -turnK.eq_2, -condK.eq_3, -ex_region, -ex_drawn, -drawK.eq_1, -drawK.eq_2, -ops_cons, -pure_cons, -up_cons, -upC.eq_1, -absPick, ex_regionL, ex_drawnL, drawK_p, drawK_u, ops_gT, pure_gT, up_gT, upR_eq, gT_n, gT_s, gU_s, gX_1, gX_0, gX_t, gW_tt, gW_ff, gW_tf, gW_ft, pick_val, pkD_t, pkD_f, seqK_x, seqK_r, turnK_x, turnK_r, seqK_br, blkK_br, turnK_br, finK_br, regK_br, upC_br, meet_n, meet_e, meet_st, meet_eff, meet_b, meet_i, meet_s, mgL_cons, mgL_nil, hl, h, c']
    · have c' := eq_false c
      simp [c'] at h
      simp [Tryz.f211, -seqK.eq_2, -finK.eq_3, -turnK.eq_2, -condK.eq_3, -ex_region, -ex_drawn, -drawK.eq_1, -drawK.eq_2, -ops_cons, -pure_cons, -up_cons, -upC.eq_1, -absPick, ex_regionL, ex_drawnL, drawK_p, drawK_u, ops_gT, pure_gT, up_gT, upR_eq, gT_n, gT_s, gU_s, gX_1, gX_0, gX_t, gW_tt, gW_ff, gW_tf, gW_ft, pick_val, pkD_t, pkD_f, seqK_x, seqK_r, turnK_x, turnK_r, seqK_br, blkK_br, turnK_br, finK_br, regK_br, upC_br, meet_n, meet_e, meet_st, meet_eff, meet_b, meet_i, meet_s, mgL_cons, mgL_nil, hl, h, c']
  · have c : ¬ a = b := fun e => hl (by rw [e])
    have hl' : ¬ (a.length : Int) = b.length := by omega
    simp [Tryz.f211, -seqK.eq_2, -finK.eq_3, -turnK.eq_2, -condK.eq_3, -ex_region, -ex_drawn, -drawK.eq_1, -drawK.eq_2, -ops_cons, -pure_cons, -up_cons, -upC.eq_1, -absPick, ex_regionL, ex_drawnL, drawK_p, drawK_u, ops_gT, pure_gT, up_gT, upR_eq, gT_n, gT_s, gU_s, gX_1, gX_0, gX_t, gW_tt, gW_ff, gW_tf, gW_ft, pick_val, pkD_t, pkD_f, seqK_x, seqK_r, turnK_x, turnK_r, seqK_br, blkK_br, turnK_br, finK_br, regK_br, upC_br, meet_n, meet_e, meet_st, meet_eff, meet_b, meet_i, meet_s, mgL_cons, mgL_nil, hl, hl', c]
def aQ : Req := ⟨1, ⟨#[97]⟩, ⟨#[]⟩, ⟨#[120]⟩, 0⟩
def aI1 : Item := ⟨⟨#[97]⟩, ⟨#[]⟩, 1, ⟨#[120]⟩, 0, ⟨1, 1, 0⟩⟩
theorem norm_one (x : Item) : normL [x] = [x] := normL_self (List.pairwise_singleton _ _)
theorem normL_nil : normL [] = [] := normL_self List.Pairwise.nil
theorem sortD_nil : sortD [] = [] := by simp [sortD]
theorem sortD_one (d : Dot) : sortD [d] = [d] := by simp [sortD]
theorem awake_make : makeE 1 1 [] [aQ, aQ] = ([⟨0, ⟨#[97]⟩, ⟨#[]⟩, 1, ⟨#[120]⟩, 0, []⟩, ⟨1, ⟨#[97]⟩, ⟨#[]⟩, 1, ⟨#[120]⟩, 0, [⟨1, 1, 0⟩]⟩], 0) := by
  have f1 : formedQ aQ = true := by decide
  have d1 : dropsL aQ 1 [] = [] := by unfold dropsL pick; rw [List.filter_nil, List.map_nil, sortD_nil]; rfl
  have s1 : doE 1 1 [] [⟨0, ⟨#[97]⟩, ⟨#[]⟩, 1, ⟨#[120]⟩, 0, []⟩] = [aI1] := by
    show normL (if (1 : Int) = 0 then _ else _) = _
    rw [if_neg (by decide)]
    exact norm_one aI1
  have p1 : pick (takes aQ 1) Item.f5 [aI1] = [⟨1, 1, 0⟩] := by decide
  have d2 : dropsL aQ 1 [aI1] = [⟨1, 1, 0⟩] := by unfold dropsL; rw [p1, sortD_one]; rfl
  have o1 : oneE 1 1 0 [] aQ = (⟨0, ⟨#[97]⟩, ⟨#[]⟩, 1, ⟨#[120]⟩, 0, []⟩, true, 0) := by unfold oneE; rw [d1]; rfl
  have o2 : oneE 1 1 1 [aI1] aQ = (⟨1, ⟨#[97]⟩, ⟨#[]⟩, 1, ⟨#[120]⟩, 0, [⟨1, 1, 0⟩]⟩, true, 0) := by unfold oneE; rw [d2]; rfl
  unfold makeE
  rw [if_neg (by decide), if_neg (by decide), if_neg (by simp [f1])]
  simp only [makeG]
  have e0 : ((0 : Nat) : Int) = 0 := rfl
  have e1 : ((0 + 1 : Nat) : Int) = 1 := rfl
  rw [e0, o1]
  simp only [if_pos]
  rw [s1, e1, o2]
  simp
/-- Formed items in their one form, none of which has a dot of a node from a number on. -/
def usualN (node seq : Int) (x : Item) : Bool := formedI x && !(decide (x.f5.f0 = node) && decide (seq ≤ x.f5.f1))
def usualL (l : List Item) (node seq : Int) : Bool := shortL l && (decide (normL l = l) && l.all (usualN node seq))
end Go.E2.S
