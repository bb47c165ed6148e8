/- Effects that are right; requests that are all formed. -/
import Derived.Test.YtjejhkhofmkefaaVM8
import Derived.Test.YtjejhkhofmkefaaVQ1
import Derived.Test.YtjejhkhofmkefaaVQ2
namespace Go.E2.S
open Go Go.E2 Go.RowKit Go.Proofs
set_option linter.unusedVariables false
set_option linter.unusedSimpArgs false
set_option maxHeartbeats 4000000
set_option maxRecDepth 10000
theorem make1 (q : Req) : A.fn 86 [ag (encQ q)] [] = some (.one (bv (!formedQ q)), []) := by
  have h := mformed q
  simp [ag, encQ] at h
  rw [fn_run hL Try.func86 rfl L86 (by rfl) rfl rfl rfl (by decide)]
  simp [Try.f86, -seqK.eq_2, -finK.eq_3, -turnK.eq_2, -condK.eq_3, -ex_region, -ex_drawn, -drawK.eq_1, -drawK.eq_2, -ops_cons, -pure_cons, -up_cons, -upC.eq_1, -absPick, ex_regionL, ex_drawnL, drawK_p, drawK_u, ops_gT, pure_gT, up_gT, upR_eq, gT_n, gT_s, gU_s, gX_1, gX_0, gX_t, gW_tt, gW_ff, gW_tf, gW_ft, pick_val, pkD_t, pkD_f, seqK_x, seqK_r, turnK_x, turnK_r, seqK_br, blkK_br, turnK_br, finK_br, regK_br, upC_br, meet_n, meet_e, meet_st, meet_eff, meet_b, meet_i, meet_s, mgL_cons, mgL_nil, h]
theorem allFormed (l : List Req) (hl : l.length < 1000000000) : A.fn 85 [pv (lQ l), pv (.fn 86 [])] [] = some (.one (bv (l.any fun q => !formedQ q)), []) :=
  hasQ l 86 [] (fun q => !formedQ q) (by simp) hl fun x _ => make1 x
/-- Is a dot one of the effect's own transaction, from the effect on? -/
def ownD (node seq : Int) (e : Eff) (d : Dot) : Bool := decide (d.f0 = node) && (decide (d.f1 = seq) && decide (e.f0 ≤ d.f2))
theorem effRight1 (node seq : Int) (e : Eff) (d : Dot) : A.fn 91 [ag (encD d), pv (.ref [.int .i64 node]), pv (.ref [.int .i64 seq]), pv (.ref (encE e))] [] = some (.one (bv (ownD node seq e d)), []) := by
  rw [fn_run hL Try.func91 rfl L91 (by rfl) rfl rfl rfl (by decide)]
  simp [Try.f91, -seqK.eq_2, -finK.eq_3, -turnK.eq_2, -condK.eq_3, -ex_region, -ex_drawn, -drawK.eq_1, -drawK.eq_2, -ops_cons, -pure_cons, -up_cons, -upC.eq_1, -absPick, ex_regionL, ex_drawnL, drawK_p, drawK_u, ops_gT, pure_gT, up_gT, upR_eq, gT_n, gT_s, gU_s, gX_1, gX_0, gX_t, gW_tt, gW_ff, gW_tf, gW_ft, pick_val, pkD_t, pkD_f, seqK_x, seqK_r, turnK_x, turnK_r, seqK_br, blkK_br, turnK_br, finK_br, regK_br, upC_br, meet_n, meet_e, meet_st, meet_eff, meet_b, meet_i, meet_s, mgL_cons, mgL_nil, ownD]
def eAt (l : List Eff) (j : Nat) : Eff := l.getD j ⟨0, ⟨#[]⟩, ⟨#[]⟩, 0, ⟨#[]⟩, 0, []⟩
theorem eAt_eq (l : List Eff) (j : Nat) (h : j < l.length) : eAt l j = l[j] := by
  unfold eAt
  rw [List.getD_eq_getElem?_getD, List.getElem?_eq_getElem h]
  rfl
def rightN (node seq : Int) (l : List Eff) (j : Nat) : Bool := formedE node seq (eAt l j) && ((decide (j = 0) || decide ((eAt l (j - 1)).f0 < (eAt l j).f0)) && !((eAt l j).f6.any (ownD node seq (eAt l j))))
def rightE (node seq : Int) (l : List Eff) : Bool := allN (rightN node seq l) 0 l.length
abbrev oR (node seq : Int) : List Upd := [(2000, 0, some (.blk [.pv (.int .i64 node)])), (2001, 0, some (.blk [.pv (.int .i64 seq)]))]
theorem right_loop (node seq : Int) (l : List Eff) (hl : l.length < 1000000) (hd : ∀ e ∈ l, e.f6.length < 1000000) (n : Nat) : ∀ i : Nat, l.length = i + n →
    A.lp 49 0 (hd49_0 [pv (lE l), pv (.ref [.int .i64 node]), pv (.ref [.int .i64 seq]), pv (lE l), iv l.length, iv i] []) =
      some (if allN (rightN node seq l) i n = true then (.exit 0, ex49_0 [nov] []) else (.ret, ex49_0 [bv false] [])) := by
  induction n with
  | zero =>
    intro i hi
    rw [lp_run hL Try.func49 rfl (by rfl) 0 rfl]
    obtain rfl : i = l.length := by omega
    simp [allN]
  | succ n ih =>
    intro i hi
    have h1 : i < l.length := by omega
    have ih := ih (i + 1) (by omega)
    have hm := hd _ (List.getElem_mem h1)
    have q1 := effFormed node seq l[i] hm
    have q2 := hasDf l[i].f6 91 [.ref [.int .i64 node], .ref [.int .i64 seq], .ref (encE l[i])] (ownD node seq l[i]) (by simp) (by omega) fun x _ => effRight1 node seq l[i] x
    have w1 : IntKind.i64.wrap ((i : Int) + 1) = i + 1 := wr _ (by omega) (by omega)
    rw [allN]
    have e1 := eAt_eq l i h1
    rw [lp_run hL Try.func49 rfl (by rfl) 0 rfl]
    simp [ag, encE] at q1 q2
    by_cases i0 : i = 0
    · subst i0
      simp at ih w1
      simp [-seqK.eq_2, -finK.eq_3, -turnK.eq_2, -condK.eq_3, -ex_region, -ex_drawn, -drawK.eq_1, -drawK.eq_2, -ops_cons, -pure_cons, -up_cons, -upC.eq_1, -absPick, ex_regionL, ex_drawnL, drawK_p, drawK_u, ops_gT, pure_gT, up_gT, upR_eq, gT_n, gT_s, gU_s, gX_1, gX_0, gX_t, gW_tt, gW_ff, gW_tf, gW_ft, pick_val, pkD_t, pkD_f, seqK_x, seqK_r, turnK_x, turnK_r, seqK_br, blkK_br, turnK_br, finK_br, regK_br, upC_br, meet_n, meet_e, meet_st, meet_eff, meet_b, meet_i, meet_s, mgL_cons, mgL_nil, h1, q1, q2, w1]
      repeat (rw [upC_ok ?q]; case q => kernel_rfl)
      simp [-seqK.eq_2, -finK.eq_3, -turnK.eq_2, -condK.eq_3, -ex_region, -ex_drawn, -drawK.eq_1, -drawK.eq_2, -ops_cons, -pure_cons, -up_cons, -upC.eq_1, -absPick, ex_regionL, ex_drawnL, drawK_p, drawK_u, ops_gT, pure_gT, up_gT, upR_eq, gT_n, gT_s, gU_s, gX_1, gX_0, gX_t, gW_tt, gW_ff, gW_tf, gW_ft, pick_val, pkD_t, pkD_f, seqK_x, seqK_r, turnK_x, turnK_r, seqK_br, blkK_br, turnK_br, finK_br, regK_br, upC_br, meet_n, meet_e, meet_st, meet_eff, meet_b, meet_i, meet_s, mgL_cons, mgL_nil, h1, q1, q2, w1, ih, rightN, e1]
      clear ih q1 q2 w1 hd
      repeat' refine brB_is.2 ⟨fun _ => ?_, fun _ => ?_⟩
      all_goals grind
    · have i1 : 0 < i := by omega
      have h2 : i - 1 < l.length := by omega
      have w2 : IntKind.i64.wrap ((i : Int) - 1) = ((i - 1 : Nat) : Int) := by rw [wr _ (by omega) (by omega)]; omega
      have e2 := eAt_eq l (i - 1) h2
      simp at ih
      simp [-seqK.eq_2, -finK.eq_3, -turnK.eq_2, -condK.eq_3, -ex_region, -ex_drawn, -drawK.eq_1, -drawK.eq_2, -ops_cons, -pure_cons, -up_cons, -upC.eq_1, -absPick, ex_regionL, ex_drawnL, drawK_p, drawK_u, ops_gT, pure_gT, up_gT, upR_eq, gT_n, gT_s, gU_s, gX_1, gX_0, gX_t, gW_tt, gW_ff, gW_tf, gW_ft, pick_val, pkD_t, pkD_f, seqK_x, seqK_r, turnK_x, turnK_r, seqK_br, blkK_br, turnK_br, finK_br, regK_br, upC_br, meet_n, meet_e, meet_st, meet_eff, meet_b, meet_i, meet_s, mgL_cons, mgL_nil, h1, h2, i1, q1, q2, w1, w2]
      repeat (rw [upC_ok ?q]; case q => kernel_rfl)
      simp [-seqK.eq_2, -finK.eq_3, -turnK.eq_2, -condK.eq_3, -ex_region, -ex_drawn, -drawK.eq_1, -drawK.eq_2, -ops_cons, -pure_cons, -up_cons, -upC.eq_1, -absPick, ex_regionL, ex_drawnL, drawK_p, drawK_u, ops_gT, pure_gT, up_gT, upR_eq, gT_n, gT_s, gU_s, gX_1, gX_0, gX_t, gW_tt, gW_ff, gW_tf, gW_ft, pick_val, pkD_t, pkD_f, seqK_x, seqK_r, turnK_x, turnK_r, seqK_br, blkK_br, turnK_br, finK_br, regK_br, upC_br, meet_n, meet_e, meet_st, meet_eff, meet_b, meet_i, meet_s, mgL_cons, mgL_nil, h1, h2, i1, q1, q2, w1, w2, ih, rightN, e1, e2]
      clear ih q1 q2 w1 w2 hd
      repeat' refine brB_is.2 ⟨fun _ => ?_, fun _ => ?_⟩
      all_goals grind
theorem right_loop0 (node seq : Int) (l : List Eff) (hl : l.length < 1000000) (hd : ∀ e ∈ l, e.f6.length < 1000000) :
    A.lp 49 0 (hd49_0 [pv (lE l), .at (.ptr 2000 0 0), .at (.ptr 2001 0 0), pv (lE l), iv l.length, iv 0] (oR node seq)) =
      some (if allN (rightN node seq l) 0 l.length = true then (.exit 0, ex49_0 [nov] []) else (.ret, ex49_0 [bv false] [])) := by
  obtain ⟨m, hm⟩ : ∃ m, l.length = m := ⟨_, rfl⟩
  cases m with
  | zero =>
    rw [lp_run hL Try.func49 rfl (by rfl) 0 rfl]
    simp [hm, allN]
  | succ n =>
    have h1 : 0 < l.length := by omega
    have ih := right_loop node seq l hl hd n 1 (by omega)
    have hm' := hd _ (List.getElem_mem h1)
    have q1 := effFormed node seq l[0] hm'
    have q2 := hasDf l[0].f6 91 [.ref [.int .i64 node], .ref [.int .i64 seq], .ref (encE l[0])] (ownD node seq l[0]) (by simp) (by omega) fun x _ => effRight1 node seq l[0] x
    have w1 : IntKind.i64.wrap (1 : Int) = 1 := wr _ (by omega) (by omega)
    rw [hm, allN, ← hm]
    have e1 := eAt_eq l 0 h1
    rw [lp_run hL Try.func49 rfl (by rfl) 0 rfl]
    simp [ag, encE] at q1 q2
    simp at ih w1
    simp [-seqK.eq_2, -finK.eq_3, -turnK.eq_2, -condK.eq_3, -ex_region, -ex_drawn, -drawK.eq_1, -drawK.eq_2, -ops_cons, -pure_cons, -up_cons, -upC.eq_1, -absPick, ex_regionL, ex_drawnL, drawK_p, drawK_u, ops_gT, pure_gT, up_gT, upR_eq, gT_n, gT_s, gU_s, gX_1, gX_0, gX_t, gW_tt, gW_ff, gW_tf, gW_ft, pick_val, pkD_t, pkD_f, seqK_x, seqK_r, turnK_x, turnK_r, seqK_br, blkK_br, turnK_br, finK_br, regK_br, upC_br, meet_n, meet_e, meet_st, meet_eff, meet_b, meet_i, meet_s, mgL_cons, mgL_nil, h1, q1, q2, w1]
    repeat (rw [upC_ok ?q]; case q => kernel_rfl)
    simp [-seqK.eq_2, -finK.eq_3, -turnK.eq_2, -condK.eq_3, -ex_region, -ex_drawn, -drawK.eq_1, -drawK.eq_2, -ops_cons, -pure_cons, -up_cons, -upC.eq_1, -absPick, ex_regionL, ex_drawnL, drawK_p, drawK_u, ops_gT, pure_gT, up_gT, upR_eq, gT_n, gT_s, gU_s, gX_1, gX_0, gX_t, gW_tt, gW_ff, gW_tf, gW_ft, pick_val, pkD_t, pkD_f, seqK_x, seqK_r, turnK_x, turnK_r, seqK_br, blkK_br, turnK_br, finK_br, regK_br, upC_br, meet_n, meet_e, meet_st, meet_eff, meet_b, meet_i, meet_s, mgL_cons, mgL_nil, h1, q1, q2, w1, ih, rightN, e1]
    clear ih q1 q2 w1 hd
    repeat' refine brB_is.2 ⟨fun _ => ?_, fun _ => ?_⟩
    all_goals grind
theorem effRight (node seq : Int) (l : List Eff) (hl : l.length < 1000000) (hd : ∀ e ∈ l, e.f6.length < 1000000) : A.fn 49 [iv node, iv seq, pv (lE l)] [] = some (.one (bv (rightE node seq l)), []) := by
  have h := right_loop0 node seq l hl hd
  unfold rightE
  rw [fn_run hL Try.func49 rfl L49 (by rfl) rfl rfl rfl (by decide)]
  simp [oR] at h
  cases c : allN (rightN node seq l) 0 l.length
  all_goals
    rw [c] at h
    simp [Try.f49, -seqK.eq_2, -finK.eq_3, -turnK.eq_2, -condK.eq_3, -ex_region, -ex_drawn, -drawK.eq_1, -drawK.eq_2, -ops_cons, -pure_cons, -up_cons, -upC.eq_1, -absPick, ex_regionL, ex_drawnL, drawK_p, drawK_u, ops_gT, pure_gT, up_gT, upR_eq, gT_n, gT_s, gU_s, gX_1, gX_0, gX_t, gW_tt, gW_ff, gW_tf, gW_ft, pick_val, pkD_t, pkD_f, seqK_x, seqK_r, turnK_x, turnK_r, seqK_br, blkK_br, turnK_br, finK_br, regK_br, upC_br, meet_n, meet_e, meet_st, meet_eff, meet_b, meet_i, meet_s, mgL_cons, mgL_nil, h]
end Go.E2.S
