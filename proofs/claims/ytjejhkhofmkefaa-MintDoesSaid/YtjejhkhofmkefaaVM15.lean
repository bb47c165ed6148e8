/- MintDoes. -/
import Derived.Test.YtjejhkhofmkefaaVM14
import Derived.Test.YtjejhkhofmkefaaVF9
namespace Go.E2.S
open Go Go.E2 Go.RowKit Go.Proofs
set_option linter.unusedVariables false
set_option linter.unusedSimpArgs false
set_option maxHeartbeats 4000000
set_option maxRecDepth 10000
def sameF (key fld : ByteArray) (q : Req) : Bool := decide (q.f1 = key) && decide (q.f2 = fld)
theorem later_loop (l : List Req) (i : Nat) (hi : i < l.length) (hl : l.length < 1000000000) (n : Nat) : ∀ k : Nat, l.length = k + n →
    A.lp 48 0 (hd48_0 [pv (lQ l), iv i, iv k] []) = some (if (l.drop k).any (sameF l[i].f1 l[i].f2) = true then (.ret, ex48_0 [bv true] []) else (.exit 0, ex48_0 [nov] [])) := by
  induction n with
  | zero =>
    intro k hk
    rw [lp_run hL Try.func48 rfl (by rfl) 0 rfl]
    obtain rfl : k = l.length := by omega
    simp
  | succ n ih =>
    intro k hk
    have h1 : k < l.length := by omega
    have ih := ih (k + 1) (by omega)
    have w1 : IntKind.i64.wrap ((k : Int) + 1) = k + 1 := wr _ (by omega) (by omega)
    rw [List.drop_eq_getElem_cons h1, List.any_cons]
    rw [lp_run hL Try.func48 rfl (by rfl) 0 rfl]
    simp [-List.any_eq_true] at ih
    simp [-seqK.eq_2, -finK.eq_3, -turnK.eq_2, -condK.eq_3, -ex_region, -ex_drawn, -drawK.eq_1, -drawK.eq_2, -ops_cons, -pure_cons, -up_cons, -upC.eq_1, -absPick, ex_regionL, ex_drawnL, drawK_p, drawK_u, ops_gT, pure_gT, up_gT, upR_eq, gT_n, gT_s, gU_s, gX_1, gX_0, gX_t, gW_tt, gW_ff, gW_tf, gW_ft, pick_val, pkD_t, pkD_f, seqK_x, seqK_r, turnK_x, turnK_r, seqK_br, blkK_br, turnK_br, finK_br, regK_br, upC_br, meet_n, meet_e, meet_st, meet_eff, meet_b, meet_i, meet_s, mgL_cons, mgL_nil, h1, hi, w1, ih, -List.any_eq_true]
    clear ih
    unfold sameF
    repeat' refine brB_is.2 ⟨fun _ => ?_, fun _ => ?_⟩
    all_goals grind
def laterB (l : List Req) (i : Nat) : Bool := match l[i]? with
  | some q => (l.drop (i + 1)).any (sameF q.f1 q.f2)
  | none => false
theorem later (l : List Req) (i : Nat) (hi : i < l.length) (hl : l.length < 1000000000) : A.fn 48 [pv (lQ l), iv i] [] = some (.one (bv (laterB l i)), []) := by
  have h := later_loop l i hi hl (l.length - (i + 1)) (i + 1) (by omega)
  have w1 : IntKind.i64.wrap ((i : Int) + 1) = i + 1 := wr _ (by omega) (by omega)
  unfold laterB
  rw [List.getElem?_eq_getElem hi]
  dsimp only
  simp [-List.any_eq_true] at h
  rw [fn_run hL Try.func48 rfl L48 (by rfl) rfl rfl rfl (by decide)]
  cases c : (l.drop (i + 1)).any (sameF l[i].f1 l[i].f2)
  all_goals
    rw [c] at h
    simp [Try.f48, -seqK.eq_2, -finK.eq_3, -turnK.eq_2, -condK.eq_3, -ex_region, -ex_drawn, -drawK.eq_1, -drawK.eq_2, -ops_cons, -pure_cons, -up_cons, -upC.eq_1, -absPick, ex_regionL, ex_drawnL, drawK_p, drawK_u, ops_gT, pure_gT, up_gT, upR_eq, gT_n, gT_s, gU_s, gX_1, gX_0, gX_t, gW_tt, gW_ff, gW_tf, gW_ft, pick_val, pkD_t, pkD_f, seqK_x, seqK_r, turnK_x, turnK_r, seqK_br, blkK_br, turnK_br, finK_br, regK_br, upC_br, meet_n, meet_e, meet_st, meet_eff, meet_b, meet_i, meet_s, mgL_cons, mgL_nil, h, w1]
abbrev oDo (own : Bool) (fin : List Item) : List Upd := [(2000, 0, some (.row own 8 (fin.map encI)))]
abbrev oDo2 (fin : List Item) (q : Req) (v : Val) : List Upd := [(2000, 0, some (.row false 8 (fin.map encI))), (2001, 0, some (.blk [.pv (.int .i64 q.f0), .pv (.str q.f1), .pv (.str q.f2), .pv (.str q.f3), .pv (.int .i64 q.f4)])), (2002, 0, some (.blk [.pv (lS v.f0), .pv (lS v.f1), .pv (.int .i64 v.f2), .pv (.bool v.f3)]))]
theorem does_in (items fin : List Item) (l : List Req) (key fld : ByteArray) (named : Bool) (i : Nat) (q : Req) (v : Val) (hv : v.f0.length < 1000000000) (n : Nat) : ∀ (k : Nat) (is : Bool), v.f0.length = k + n →
    A.lp 7 2 (hd7_2 [pv (lI items), pv (lQ l), sv key, sv fld, .at (.row 2000 0), bv named, iv i, .at (.ptr 2001 0 0), .at (.ptr 2002 0 0), bv is, iv k] (oDo2 fin q v)) =
      some (.exit 2, ex7_2 [pv (lI items), pv (lQ l), sv key, sv fld, .at (.row 2000 0), bv named, iv i, .at (.ptr 2001 0 0), .at (.ptr 2002 0 0), bv (is || (v.f0.drop k).any (fun s => decide (s = q.f3)))] (oDo2 fin q v)) := by
  induction n with
  | zero =>
    intro k is hk
    rw [lp_run hL Try.func7 rfl (by rfl) 2 rfl]
    obtain rfl : k = v.f0.length := by omega
    simp [oDo2]
  | succ n ih =>
    intro k is hk
    have h1 : k < v.f0.length := by omega
    have ih := ih (k + 1) (is || decide (v.f0[k] = q.f3)) (by omega)
    have w1 : IntKind.i64.wrap ((k : Int) + 1) = k + 1 := wr _ (by omega) (by omega)
    rw [List.drop_eq_getElem_cons h1, List.any_cons]
    rw [lp_run hL Try.func7 rfl (by rfl) 2 rfl]
    simp [oDo2, -List.any_eq_true] at ih
    cases is
    · simp [-seqK.eq_2, -finK.eq_3, -turnK.eq_2, -condK.eq_3, -ex_region, -ex_drawn, -drawK.eq_1, -drawK.eq_2, -ops_cons, -pure_cons, -up_cons, -upC.eq_1, -absPick, ex_regionL, ex_drawnL, drawK_p, drawK_u, ops_gT, pure_gT, up_gT, upR_eq, gT_n, gT_s, gU_s, gX_1, gX_0, gX_t, gW_tt, gW_ff, gW_tf, gW_ft, pick_val, pkD_t, pkD_f, seqK_x, seqK_r, turnK_x, turnK_r, seqK_br, blkK_br, turnK_br, finK_br, regK_br, upC_br, meet_n, meet_e, meet_st, meet_eff, meet_b, meet_i, meet_s, mgL_cons, mgL_nil, oDo2, h1, w1, -List.any_eq_true] at ih ⊢
      exact ih
    · simp [-seqK.eq_2, -finK.eq_3, -turnK.eq_2, -condK.eq_3, -ex_region, -ex_drawn, -drawK.eq_1, -drawK.eq_2, -ops_cons, -pure_cons, -up_cons, -upC.eq_1, -absPick, ex_regionL, ex_drawnL, drawK_p, drawK_u, ops_gT, pure_gT, up_gT, upR_eq, gT_n, gT_s, gU_s, gX_1, gX_0, gX_t, gW_tt, gW_ff, gW_tf, gW_ft, pick_val, pkD_t, pkD_f, seqK_x, seqK_r, turnK_x, turnK_r, seqK_br, blkK_br, turnK_br, finK_br, regK_br, upC_br, meet_n, meet_e, meet_st, meet_eff, meet_b, meet_i, meet_s, mgL_cons, mgL_nil, oDo2, h1, w1, -List.any_eq_true] at ih ⊢
      exact ih
theorem does_loop (items fin : List Item) (l : List Req) (key fld : ByteArray) (hl : l.length < 1000000000) (hfin : fin.length < 100000) (hw : ∀ x ∈ fin, WfI x)
    (hask : ∀ i (h : i < l.length), laterB l i = false → askedB l[i] (fieldV fin l[i].f1 l[i].f2) = true) (n : Nat) : ∀ (i : Nat) (named own : Bool), l.length = i + n →
    ∃ own' : Bool, A.lp 7 0 (hd7_0 [pv (lI items), pv (lQ l), sv key, sv fld, .at (.row 2000 0), bv named, iv i] (oDo own fin)) =
      some (.exit 0, ex7_0 [pv (lI items), sv key, sv fld, nov, .at (.row 2000 0), bv (named || (l.drop i).any (sameF key fld))] (oDo own' fin)) := by
  induction n with
  | zero =>
    intro i named own hi
    refine ⟨own, ?_⟩
    rw [lp_run hL Try.func7 rfl (by rfl) 0 rfl]
    obtain rfl : i = l.length := by omega
    simp [oDo]
  | succ n ih =>
    intro i named own hi
    have h1 : i < l.length := by omega
    have w1 : IntKind.i64.wrap ((i : Int) + 1) = i + 1 := wr _ (by omega) (by omega)
    have q1 := later l i h1 hl
    have q2 := vfield fin l[i].f1 l[i].f2 hfin hw
    have hv := fieldV_len fin l[i].f1 l[i].f2
    have hs := hask i h1
    have en : (named || (List.drop i l).any (sameF key fld)) = (named || decide (l[i].f1 = key) && decide (l[i].f2 = fld) || (List.drop (i + 1) l).any (sameF key fld)) := by
      rw [List.drop_eq_getElem_cons h1, List.any_cons]
      unfold sameF
      simp [Bool.or_assoc]
    obtain ⟨o1, ih1⟩ := ih (i + 1) (named || decide (l[i].f1 = key) && decide (l[i].f2 = fld)) own (by omega)
    obtain ⟨o2, ih2⟩ := ih (i + 1) (named || decide (l[i].f1 = key) && decide (l[i].f2 = fld)) false (by omega)
    have q3 := does_in items fin l key fld (named || decide (l[i].f1 = key) && decide (l[i].f2 = fld)) i l[i] (fieldV fin l[i].f1 l[i].f2) (by omega) (fieldV fin l[i].f1 l[i].f2).f0.length 0 false (by omega)
    have q4 := vempty (fieldV fin l[i].f1 l[i].f2)
    rw [en]
    generalize hnm : (named || decide (l[i].f1 = key) && decide (l[i].f2 = fld)) = named' at *
    have hnm2 : (if named = true then true else decide (l[i].f1 = key) && decide (l[i].f2 = fld)) = named' := by rw [← hnm]; cases named <;> rfl
    generalize fieldV fin l[i].f1 l[i].f2 = v at *
    simp [oDo, oDo2, ag, encV, -List.any_eq_true] at ih1 ih2 q2 q3 q4
    cases c : laterB l i
    · rw [c] at q1
      have hs := hs c
      refine ⟨o2, ?_⟩
      unfold askedB at hs
      by_cases c1 : l[i].f0 = 1
      · have c1' := eq_true c1
        have hs2 : (v.f0.any fun s => decide (s = l[i].f3)) = true := by rw [if_pos c1] at hs; exact hs
        cases own <;> (
          rw [lp_run hL Try.func7 rfl (by rfl) 0 rfl]
          simp [-seqK.eq_2, -finK.eq_3, -turnK.eq_2, -condK.eq_3, -ex_region, -ex_drawn, -drawK.eq_1, -drawK.eq_2, -ops_cons, -pure_cons, -up_cons, -upC.eq_1, -absPick, ex_regionL, ex_drawnL, drawK_p, drawK_u, ops_gT, pure_gT, up_gT, upR_eq, gT_n, gT_s, gU_s, gX_1, gX_0, gX_t, gW_tt, gW_ff, gW_tf, gW_ft, pick_val, pkD_t, pkD_f, seqK_x, seqK_r, turnK_x, turnK_r, seqK_br, blkK_br, turnK_br, finK_br, regK_br, upC_br, meet_n, meet_e, meet_st, meet_eff, meet_b, meet_i, meet_s, mgL_cons, mgL_nil, oDo, h1, w1, q1, q2, q3, c1', hs2, hnm, hnm2, ih2, -List.any_eq_true])
      · rw [if_neg c1] at hs
        have c1' := eq_false c1
        by_cases c2 : l[i].f0 = 2
        · have c2' := eq_true c2
          have hs2 : (v.f0.any fun s => decide (s = l[i].f3)) = false := by
            rw [if_pos c2] at hs
            simpa only [Bool.not_eq_true'] using hs
          cases own <;> (
            rw [lp_run hL Try.func7 rfl (by rfl) 0 rfl]
            simp [-seqK.eq_2, -finK.eq_3, -turnK.eq_2, -condK.eq_3, -ex_region, -ex_drawn, -drawK.eq_1, -drawK.eq_2, -ops_cons, -pure_cons, -up_cons, -upC.eq_1, -absPick, ex_regionL, ex_drawnL, drawK_p, drawK_u, ops_gT, pure_gT, up_gT, upR_eq, gT_n, gT_s, gU_s, gX_1, gX_0, gX_t, gW_tt, gW_ff, gW_tf, gW_ft, pick_val, pkD_t, pkD_f, seqK_x, seqK_r, turnK_x, turnK_r, seqK_br, blkK_br, turnK_br, finK_br, regK_br, upC_br, meet_n, meet_e, meet_st, meet_eff, meet_b, meet_i, meet_s, mgL_cons, mgL_nil, oDo, h1, w1, q1, q2, q3, c1', c2', hs2, hnm, hnm2, ih2, -List.any_eq_true, -List.any_eq_false])
        · rw [if_neg c2] at hs
          have c2' := eq_false c2
          by_cases c3 : l[i].f0 = 3
          · have c3' := eq_true c3
            have hs2 : v.f1 = [l[i].f3] := by rw [if_pos c3] at hs; exact of_decide_eq_true hs
            simp only [hs2] at q2 q3
            cases own <;> (
              rw [lp_run hL Try.func7 rfl (by rfl) 0 rfl]
              simp [-seqK.eq_2, -finK.eq_3, -turnK.eq_2, -condK.eq_3, -ex_region, -ex_drawn, -drawK.eq_1, -drawK.eq_2, -ops_cons, -pure_cons, -up_cons, -upC.eq_1, -absPick, ex_regionL, ex_drawnL, drawK_p, drawK_u, ops_gT, pure_gT, up_gT, upR_eq, gT_n, gT_s, gU_s, gX_1, gX_0, gX_t, gW_tt, gW_ff, gW_tf, gW_ft, pick_val, pkD_t, pkD_f, seqK_x, seqK_r, turnK_x, turnK_r, seqK_br, blkK_br, turnK_br, finK_br, regK_br, upC_br, meet_n, meet_e, meet_st, meet_eff, meet_b, meet_i, meet_s, mgL_cons, mgL_nil, oDo, h1, w1, q1, q2, q3, c1', c2', c3', hs2, hnm, hnm2, ih2, -List.any_eq_true, -List.any_eq_false])
          · rw [if_neg c3] at hs
            have c3' := eq_false c3
            by_cases c5 : l[i].f0 = 5
            · have c5' := eq_true c5
              have hs2 : v = emptyV := by rw [if_pos c5] at hs; exact of_decide_eq_true hs
              rw [decide_eq_true hs2] at q4
              cases own <;> (
                rw [lp_run hL Try.func7 rfl (by rfl) 0 rfl]
                simp [-seqK.eq_2, -finK.eq_3, -turnK.eq_2, -condK.eq_3, -ex_region, -ex_drawn, -drawK.eq_1, -drawK.eq_2, -ops_cons, -pure_cons, -up_cons, -upC.eq_1, -absPick, ex_regionL, ex_drawnL, drawK_p, drawK_u, ops_gT, pure_gT, up_gT, upR_eq, gT_n, gT_s, gU_s, gX_1, gX_0, gX_t, gW_tt, gW_ff, gW_tf, gW_ft, pick_val, pkD_t, pkD_f, seqK_x, seqK_r, turnK_x, turnK_r, seqK_br, blkK_br, turnK_br, finK_br, regK_br, upC_br, meet_n, meet_e, meet_st, meet_eff, meet_b, meet_i, meet_s, mgL_cons, mgL_nil, oDo, h1, w1, q1, q2, q3, q4, c1', c2', c3', c5', hnm, hnm2, ih2, -List.any_eq_true, -List.any_eq_false])
            · have c5' := eq_false c5
              cases own <;> (
                rw [lp_run hL Try.func7 rfl (by rfl) 0 rfl]
                simp [-seqK.eq_2, -finK.eq_3, -turnK.eq_2, -condK.eq_3, -ex_region, -ex_drawn, -drawK.eq_1, -drawK.eq_2, -ops_cons, -pure_cons, -up_cons, -upC.eq_1, -absPick, ex_regionL, ex_drawnL, drawK_p, drawK_u, ops_gT, pure_gT, up_gT, upR_eq, gT_n, gT_s, gU_s, gX_1, gX_0, gX_t, gW_tt, gW_ff, gW_tf, gW_ft, pick_val, pkD_t, pkD_f, seqK_x, seqK_r, turnK_x, turnK_r, seqK_br, blkK_br, turnK_br, finK_br, regK_br, upC_br, meet_n, meet_e, meet_st, meet_eff, meet_b, meet_i, meet_s, mgL_cons, mgL_nil, oDo, h1, w1, q1, q2, q3, c1', c2', c3', c5', hnm, hnm2, ih2, -List.any_eq_true, -List.any_eq_false])
    · rw [c] at q1
      refine ⟨o1, ?_⟩
      rw [lp_run hL Try.func7 rfl (by rfl) 0 rfl]
      simp [-seqK.eq_2, -finK.eq_3, -turnK.eq_2, -condK.eq_3, -ex_region, -ex_drawn, -drawK.eq_1, -drawK.eq_2, -ops_cons, -pure_cons, -up_cons, -upC.eq_1, -absPick, ex_regionL, ex_drawnL, drawK_p, drawK_u, ops_gT, pure_gT, up_gT, upR_eq, gT_n, gT_s, gU_s, gX_1, gX_0, gX_t, gW_tt, gW_ff, gW_tf, gW_ft, pick_val, pkD_t, pkD_f, seqK_x, seqK_r, turnK_x, turnK_r, seqK_br, blkK_br, turnK_br, finK_br, regK_br, upC_br, meet_n, meet_e, meet_st, meet_eff, meet_b, meet_i, meet_s, mgL_cons, mgL_nil, oDo, h1, w1, q1, hnm, hnm2, ih1, -List.any_eq_true]
theorem fin_wf {node seq : Int} (hr : Rng node seq) : ∀ (qs : List Req) (i : Nat) (l : List Item), (∀ x ∈ l, WfI x) → i + qs.length ≤ 8 → ∀ x ∈ finI node seq i l qs, WfI x
  | [], i, l, hw, _ => hw
  | q :: qs, i, l, hw, hi => by
    rw [List.length_cons] at hi
    refine fin_wf hr qs (i + 1) _ (fun x hx => ?_) (by omega)
    unfold nextI at hx
    split at hx
    · obtain ⟨w0, w3, w5⟩ := oneE_wf (node := node) (seq := seq) (at_ := (i : Int)) (l := l) (q := q) (by unfold I64; omega)
      obtain ⟨r1, r2, r3, r4⟩ := hr
      rcases stepE_sub hx with hx | rfl
      · exact hw x hx
      · exact madeE_wf (by unfold I64; omega) (by unfold I64; omega) w0 w3 w5
    · exact hw x hx
theorem mintDoes (l : List Item) (node seq : Int) (qs : List Req) (key fld : ByteArray) (hw : ∀ x ∈ l, WfI x) (hn : I64 node) (hs : I64 seq) (hq : ∀ q ∈ qs, WfQ q) : A.fn 7 [pv (lI l), iv node, iv seq, pv (lQ qs), sv key, sv fld] [] = some (.one (bv true), []) := by
  have k0 := awake12
  have k1 := usual l node seq
  cases s1 : usualL l node seq with
  | false =>
    rw [s1] at k1
    rw [fn_run hL Try.func7 rfl L7 (by rfl) rfl rfl rfl (by decide)]
    simp [Try.f7, -seqK.eq_2, -finK.eq_3, -turnK.eq_2, -condK.eq_3, -ex_region, -ex_drawn, -drawK.eq_1, -drawK.eq_2, -ops_cons, -pure_cons, -up_cons, -upC.eq_1, -absPick, ex_regionL, ex_drawnL, drawK_p, drawK_u, ops_gT, pure_gT, up_gT, upR_eq, gT_n, gT_s, gU_s, gX_1, gX_0, gX_t, gW_tt, gW_ff, gW_tf, gW_ft, pick_val, pkD_t, pkD_f, seqK_x, seqK_r, turnK_x, turnK_r, seqK_br, blkK_br, turnK_br, finK_br, regK_br, upC_br, meet_n, meet_e, meet_st, meet_eff, meet_b, meet_i, meet_s, mgL_cons, mgL_nil, k0, k1]
  | true =>
    rw [s1] at k1
    obtain ⟨hg, hf, hl⟩ := usual_good s1
    have q1 := mintMake2 node seq l qs (by omega) hw hq
    by_cases c : (makeE node seq l qs).2 = 0
    · obtain ⟨r1, r2, r3, r4, r5⟩ := make_ok c
      obtain ⟨⟨g1, g2⟩, g3, g4⟩ := run_right r1 qs 0 l hg hf r3 (by omega) r4
      have hlen := run_len node seq qs 0 l
      have hfl := fin_len node seq qs 0 l
      have hdo := doE_run node seq qs 0 l
      have hd64 : ∀ e ∈ runE node seq 0 l qs, e.f6.length < 1000000 := fun e he => by
        have := (g4 e he).2.1
        unfold formedE at this
        simp only [Bool.and_eq_true, decide_eq_true_eq] at this
        omega
      rw [r5, c] at q1
      have q2 := effDo l node seq (runE node seq 0 l qs) (by omega) (by omega) (fun e he => by have := hd64 e he; omega)
      rw [hdo] at q2
      have hwf := fin_wf r1 qs 0 l hw (by omega)
      have hask : ∀ i (h : i < qs.length), laterB qs i = false → askedB qs[i] (fieldV (finI node seq 0 l qs) qs[i].f1 qs[i].f2) = true := fun i h hb => by
        refine fin_asked r1 hg hf r3 r2 r4 i h fun q hq' hc => ?_
        unfold laterB at hb
        rw [List.getElem?_eq_getElem h] at hb
        have := (List.any_eq_false.1 hb) q hq'
        simp [sameF, hc.1, hc.2] at this
      obtain ⟨own', q3⟩ := does_loop l (finI node seq 0 l qs) qs key fld (by omega) (by omega) hwf hask qs.length 0 false true (by omega)
      have q4 := vfield (finI node seq 0 l qs) key fld (by omega) hwf
      have q5 := vfield l key fld (by omega) hw
      have v1 := fieldV_len (finI node seq 0 l qs) key fld
      have q6 := vsame (fieldV (finI node seq 0 l qs) key fld) (fieldV l key fld) (by omega) (by omega)
      have hrest : qs.any (sameF key fld) = false → fieldV (finI node seq 0 l qs) key fld = fieldV l key fld := fun h => fin_rest hg r4 fun q hq' hc => by
        have := (List.any_eq_false.1 h) q hq'
        simp [sameF, hc.1, hc.2] at this
      generalize runE node seq 0 l qs = es at *
      generalize finI node seq 0 l qs = fin at *
      generalize fieldV fin key fld = va at *
      generalize fieldV l key fld = vb at *
      simp only [rI, pinN] at q2
      simp [oDo, ag, encV, -List.any_eq_true] at q3 q4 q5 q6
      cases cn : qs.any (sameF key fld)
      · rw [cn] at q3
        rw [decide_eq_true (hrest cn)] at q6
        cases own' <;> (
          rw [fn_run hL Try.func7 rfl L7 (by rfl) rfl rfl rfl (by decide)]
          simp [Try.f7, -seqK.eq_2, -finK.eq_3, -turnK.eq_2, -condK.eq_3, -ex_region, -ex_drawn, -drawK.eq_1, -drawK.eq_2, -ops_cons, -pure_cons, -up_cons, -upC.eq_1, -absPick, ex_regionL, ex_drawnL, drawK_p, drawK_u, ops_gT, pure_gT, up_gT, upR_eq, gT_n, gT_s, gU_s, gX_1, gX_0, gX_t, gW_tt, gW_ff, gW_tf, gW_ft, pick_val, pkD_t, pkD_f, seqK_x, seqK_r, turnK_x, turnK_r, seqK_br, blkK_br, turnK_br, finK_br, regK_br, upC_br, meet_n, meet_e, meet_st, meet_eff, meet_b, meet_i, meet_s, mgL_cons, mgL_nil, k0, k1, q1, q2, q3, q4, q5, q6])
      · rw [cn] at q3
        cases own' <;> (
          rw [fn_run hL Try.func7 rfl L7 (by rfl) rfl rfl rfl (by decide)]
          simp [Try.f7, -seqK.eq_2, -finK.eq_3, -turnK.eq_2, -condK.eq_3, -ex_region, -ex_drawn, -drawK.eq_1, -drawK.eq_2, -ops_cons, -pure_cons, -up_cons, -upC.eq_1, -absPick, ex_regionL, ex_drawnL, drawK_p, drawK_u, ops_gT, pure_gT, up_gT, upR_eq, gT_n, gT_s, gU_s, gX_1, gX_0, gX_t, gW_tt, gW_ff, gW_tf, gW_ft, pick_val, pkD_t, pkD_f, seqK_x, seqK_r, turnK_x, turnK_r, seqK_br, blkK_br, turnK_br, finK_br, regK_br, upC_br, meet_n, meet_e, meet_st, meet_eff, meet_b, meet_i, meet_s, mgL_cons, mgL_nil, k0, k1, q1, q2, q3])
    · rw [fn_run hL Try.func7 rfl L7 (by rfl) rfl rfl rfl (by decide)]
      simp [Try.f7, -seqK.eq_2, -finK.eq_3, -turnK.eq_2, -condK.eq_3, -ex_region, -ex_drawn, -drawK.eq_1, -drawK.eq_2, -ops_cons, -pure_cons, -up_cons, -upC.eq_1, -absPick, ex_regionL, ex_drawnL, drawK_p, drawK_u, ops_gT, pure_gT, up_gT, upR_eq, gT_n, gT_s, gU_s, gX_1, gX_0, gX_t, gW_tt, gW_ff, gW_tf, gW_ft, pick_val, pkD_t, pkD_f, seqK_x, seqK_r, turnK_x, turnK_r, seqK_br, blkK_br, turnK_br, finK_br, regK_br, upC_br, meet_n, meet_e, meet_st, meet_eff, meet_b, meet_i, meet_s, mgL_cons, mgL_nil, k0, k1, q1, c]
end Go.E2.S
