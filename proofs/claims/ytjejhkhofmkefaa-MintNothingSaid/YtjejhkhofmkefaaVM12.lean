/- MintNothing. -/
import Derived.Test.YtjejhkhofmkefaaVM11
namespace Go.E2.S
open Go Go.E2 Go.RowKit Go.Proofs
set_option linter.unusedVariables false
set_option linter.unusedSimpArgs false
set_option maxHeartbeats 4000000
set_option maxRecDepth 10000
abbrev delQ (key fld elem : ByteArray) : Req := ⟨2, key, fld, elem, 0⟩
abbrev dropQ (key fld : ByteArray) : Req := ⟨5, key, fld, ⟨#[]⟩, 0⟩
abbrev oNo (key fld elem : ByteArray) : List Upd := [(2000, 0, some (.row true 5 [encQ (delQ key fld elem), encQ (dropQ key fld)]))]
theorem no_loop (l : List Item) (node seq : Int) (key fld elem : ByteArray) (hl : l.length < 1000000000) (n : Nat) : ∀ i : Nat, l.length = i + n →
    A.lp 5 0 (hd5_0 [pv (lI l), iv node, iv seq, sv key, sv fld, .at (.row 2000 0), iv i] (oNo key fld elem)) = some (if (l.drop i).any (inField key fld) = true then (.ret, ex5_0 [pv (lI l), iv node, iv seq, bv true, .at (.row 2000 0)] (oNo key fld elem)) else (.exit 0, ex5_0 [pv (lI l), iv node, iv seq, nov, .at (.row 2000 0)] (oNo key fld elem))) := by
  induction n with
  | zero =>
    intro i hi
    rw [lp_run hL Try.func5 rfl (by rfl) 0 rfl]
    obtain rfl : i = l.length := by omega
    simp
  | succ n ih =>
    intro i hi
    have h1 : i < l.length := by omega
    have ih := ih (i + 1) (by omega)
    have w1 : IntKind.i64.wrap ((i : Int) + 1) = i + 1 := wr _ (by omega) (by omega)
    rw [List.drop_eq_getElem_cons h1, List.any_cons]
    rw [lp_run hL Try.func5 rfl (by rfl) 0 rfl]
    simp [-List.any_eq_true, encQ, oNo] at ih
    simp [-seqK.eq_2, -finK.eq_3, -turnK.eq_2, -condK.eq_3, -ex_region, -ex_drawn, -drawK.eq_1, -drawK.eq_2, -ops_cons, -pure_cons, -up_cons, -upC.eq_1, -absPick, ex_regionL, ex_drawnL, drawK_p, drawK_u, ops_gT, pure_gT, up_gT, upR_eq, gT_n, gT_s, gU_s, gX_1, gX_0, gX_t, gW_tt, gW_ff, gW_tf, gW_ft, pick_val, pkD_t, pkD_f, seqK_x, seqK_r, turnK_x, turnK_r, seqK_br, blkK_br, turnK_br, finK_br, regK_br, upC_br, meet_n, meet_e, meet_st, meet_eff, meet_b, meet_i, meet_s, mgL_cons, mgL_nil, h1, w1, ih, -List.any_eq_true, encQ, oNo]
    clear ih
    unfold inField
    repeat' refine brB_is.2 ⟨fun _ => ?_, fun _ => ?_⟩
    all_goals grind
theorem dropsL_none (q : Req) (node : Int) (l : List Item) (h : l.any (inField q.f1 q.f2) = false) : dropsL q node l = [] := by
  have e : l.filter (takes q node) = [] := List.filter_eq_nil_iff.2 fun x hx => by
    rw [List.any_eq_false] at h
    have := h x hx
    simp [takes, this]
  unfold dropsL pick
  rw [e, List.map_nil, sortD_nil]
  rfl
theorem make_nothing (node seq : Int) (items : List Item) (key fld elem : ByteArray) (hn : 0 ≤ node) (hn1 : node < 8) (hs : 1 ≤ seq) (hs1 : seq ≤ 1073741824) (hf : formedQ (delQ key fld elem) = true) (h : items.any (inField key fld) = false) :
    makeE node seq items [delQ key fld elem, dropQ key fld] = ([], 0) := by
  have hf2 : formedQ (dropQ key fld) = true := by
    simp [formedQ] at hf ⊢
    exact ⟨⟨⟨hf.1.1, hf.1.2⟩, by decide⟩, rfl⟩
  have o1 : oneE node seq (0 : Nat) items (delQ key fld elem) = (⟨0, key, fld, 0, ⟨#[]⟩, 0, []⟩, false, 0) := by
    have d := dropsL_none (delQ key fld elem) node items h
    unfold oneE
    rw [d]
    rfl
  have o2 : oneE node seq (1 : Nat) items (dropQ key fld) = (⟨1, key, fld, 0, ⟨#[]⟩, 0, []⟩, false, 0) := by
    have d := dropsL_none (dropQ key fld) node items h
    unfold oneE
    rw [d]
    rfl
  unfold makeE
  rw [if_neg (by omega), if_neg (by simp), if_neg (by simp [hf, hf2])]
  simp only [makeG, o1, o2]
  simp
theorem mintNothing (l : List Item) (node seq : Int) (key fld elem : ByteArray) (hw : ∀ x ∈ l, WfI x) : A.fn 5 [pv (lI l), iv node, iv seq, sv key, sv fld, sv elem] [] = some (.one (bv true), []) := by
  have k0 := awake12
  have k1 := short09 l
  have k2 := mformed (delQ key fld elem)
  simp [ag, encQ] at k2
  cases s1 : shortL l with
  | false =>
    rw [s1] at k1
    rw [fn_run hL Try.func5 rfl L5 (by rfl) rfl rfl rfl (by decide)]
    simp [Try.f5, -seqK.eq_2, -finK.eq_3, -turnK.eq_2, -condK.eq_3, -ex_region, -ex_drawn, -drawK.eq_1, -drawK.eq_2, -ops_cons, -pure_cons, -up_cons, -upC.eq_1, -absPick, ex_regionL, ex_drawnL, drawK_p, drawK_u, ops_gT, pure_gT, up_gT, upR_eq, gT_n, gT_s, gU_s, gX_1, gX_0, gX_t, gW_tt, gW_ff, gW_tf, gW_ft, pick_val, pkD_t, pkD_f, seqK_x, seqK_r, turnK_x, turnK_r, seqK_br, blkK_br, turnK_br, finK_br, regK_br, upC_br, meet_n, meet_e, meet_st, meet_eff, meet_b, meet_i, meet_s, mgL_cons, mgL_nil, k0, k1]
  | true =>
    rw [s1] at k1
    have n1 : l.length ≤ 60 := by simp [shortL] at s1; omega
    cases s2 : formedQ (delQ key fld elem) with
    | false =>
      rw [s2] at k2
      rw [fn_run hL Try.func5 rfl L5 (by rfl) rfl rfl rfl (by decide)]
      simp [Try.f5, -seqK.eq_2, -finK.eq_3, -turnK.eq_2, -condK.eq_3, -ex_region, -ex_drawn, -drawK.eq_1, -drawK.eq_2, -ops_cons, -pure_cons, -up_cons, -upC.eq_1, -absPick, ex_regionL, ex_drawnL, drawK_p, drawK_u, ops_gT, pure_gT, up_gT, upR_eq, gT_n, gT_s, gU_s, gX_1, gX_0, gX_t, gW_tt, gW_ff, gW_tf, gW_ft, pick_val, pkD_t, pkD_f, seqK_x, seqK_r, turnK_x, turnK_r, seqK_br, blkK_br, turnK_br, finK_br, regK_br, upC_br, meet_n, meet_e, meet_st, meet_eff, meet_b, meet_i, meet_s, mgL_cons, mgL_nil, k0, k1, k2]
    | true =>
      rw [s2] at k2
      by_cases c : node < 0 ∨ 8 ≤ node ∨ seq < 1 ∨ 1073741824 < seq
      · have e : (decide (node < 0) || (decide (8 ≤ node) || (decide (seq < 1) || decide (1073741824 < seq)))) = true := by simp; exact c
        rw [fn_run hL Try.func5 rfl L5 (by rfl) rfl rfl rfl (by decide)]
        simp [Try.f5, -seqK.eq_2, -finK.eq_3, -turnK.eq_2, -condK.eq_3, -ex_region, -ex_drawn, -drawK.eq_1, -drawK.eq_2, -ops_cons, -pure_cons, -up_cons, -upC.eq_1, -absPick, ex_regionL, ex_drawnL, drawK_p, drawK_u, ops_gT, pure_gT, up_gT, upR_eq, gT_n, gT_s, gU_s, gX_1, gX_0, gX_t, gW_tt, gW_ff, gW_tf, gW_ft, pick_val, pkD_t, pkD_f, seqK_x, seqK_r, turnK_x, turnK_r, seqK_br, blkK_br, turnK_br, finK_br, regK_br, upC_br, meet_n, meet_e, meet_st, meet_eff, meet_b, meet_i, meet_s, mgL_cons, mgL_nil, k0, k1, k2, e]
      · have e1 : ¬ node < 0 := by omega
        have e2 : ¬ 8 ≤ node := by omega
        have e3 : ¬ seq < 1 := by omega
        have e4 : ¬ 1073741824 < seq := by omega
        have h := no_loop l node seq key fld elem (by omega) l.length 0 (by omega)
        simp [-List.any_eq_true, encQ, oNo] at h
        cases s3 : l.any (inField key fld) with
        | true =>
          rw [s3] at h
          rw [fn_run hL Try.func5 rfl L5 (by rfl) rfl rfl rfl (by decide)]
          simp [Try.f5, -seqK.eq_2, -finK.eq_3, -turnK.eq_2, -condK.eq_3, -ex_region, -ex_drawn, -drawK.eq_1, -drawK.eq_2, -ops_cons, -pure_cons, -up_cons, -upC.eq_1, -absPick, ex_regionL, ex_drawnL, drawK_p, drawK_u, ops_gT, pure_gT, up_gT, upR_eq, gT_n, gT_s, gU_s, gX_1, gX_0, gX_t, gW_tt, gW_ff, gW_tf, gW_ft, pick_val, pkD_t, pkD_f, seqK_x, seqK_r, turnK_x, turnK_r, seqK_br, blkK_br, turnK_br, finK_br, regK_br, upC_br, meet_n, meet_e, meet_st, meet_eff, meet_b, meet_i, meet_s, mgL_cons, mgL_nil, k0, k1, k2, e1, e2, e3, e4, h, -Int.not_lt]
        | false =>
          rw [s3] at h
          have q := mintMake node seq l [delQ key fld elem, dropQ key fld] (by omega) hw (by
            intro q hq
            simp at hq
            rcases hq with rfl | rfl <;> exact ⟨by unfold I64; simp, by unfold I64; simp⟩) (by simp)
          rw [make_nothing node seq l key fld elem (by omega) (by omega) (by omega) (by omega) s2 s3] at q
          simp [lQ, lE, encQ] at q
          rw [fn_run hL Try.func5 rfl L5 (by rfl) rfl rfl rfl (by decide)]
          simp [Try.f5, -seqK.eq_2, -finK.eq_3, -turnK.eq_2, -condK.eq_3, -ex_region, -ex_drawn, -drawK.eq_1, -drawK.eq_2, -ops_cons, -pure_cons, -up_cons, -upC.eq_1, -absPick, ex_regionL, ex_drawnL, drawK_p, drawK_u, ops_gT, pure_gT, up_gT, upR_eq, gT_n, gT_s, gU_s, gX_1, gX_0, gX_t, gW_tt, gW_ff, gW_tf, gW_ft, pick_val, pkD_t, pkD_f, seqK_x, seqK_r, turnK_x, turnK_r, seqK_br, blkK_br, turnK_br, finK_br, regK_br, upC_br, meet_n, meet_e, meet_st, meet_eff, meet_b, meet_i, meet_s, mgL_cons, mgL_nil, k0, k1, k2, e1, e2, e3, e4, h, q, -Int.not_lt]
end Go.E2.S
