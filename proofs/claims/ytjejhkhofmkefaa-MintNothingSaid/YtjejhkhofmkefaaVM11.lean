/- Chapter 12: the layer is awake; usual items; MintNothing. -/
import Derived.Test.YtjejhkhofmkefaaVM10
import Derived.Test.YtjejhkhofmkefaaVF3
namespace Go.E2.S
open Go Go.E2 Go.RowKit Go.Proofs
set_option linter.unusedVariables false
set_option linter.unusedSimpArgs false
set_option maxHeartbeats 4000000
set_option maxRecDepth 10000
theorem dot_ne (a b : Dot) : (!decide (a.f0 = b.f0) || (!decide (a.f1 = b.f1) || !decide (a.f2 = b.f2))) = !decide (a = b) := by
  rw [← dot_ext]; simp [Bool.not_and]
theorem sameD_loop (a b : List Dot) (hl : a.length = b.length) (ha : a.length < 1000000000) (n : Nat) : ∀ i : Nat, a.length = i + n →
    A.lp 84 0 (hd84_0 [pv (lD a), pv (lD b), iv i] []) = some (if a.drop i = b.drop i then (.exit 0, ex84_0 [nov] []) else (.ret, ex84_0 [bv false] [])) := by
  induction n with
  | zero =>
    intro i hi
    rw [lp_run hL Try.func84 rfl (by rfl) 0 rfl]
    obtain rfl : i = a.length := by omega
    rw [List.drop_of_length_le (Nat.le_refl _), List.drop_of_length_le (by omega)]
    simp
  | succ n ih =>
    intro i hi
    have h1 : i < a.length := by omega
    have h2 : i < b.length := by omega
    have ih := ih (i + 1) (by omega)
    have w1 : IntKind.i64.wrap ((i : Int) + 1) = i + 1 := wr _ (by omega) (by omega)
    have e := drop_eq a b i h1 h2
    rw [lp_run hL Try.func84 rfl (by rfl) 0 rfl]
    simp at ih
    by_cases c : a[i] = b[i]
    · have c' := eq_true c
      simp [-seqK.eq_2, -finK.eq_3, -turnK.eq_2, -condK.eq_3, -ex_region, -ex_drawn, -drawK.eq_1, -drawK.eq_2, -ops_cons, -pure_cons, -up_cons, -upC.eq_1, -absPick, ex_regionL, ex_drawnL, drawK_p, drawK_u, ops_gT, pure_gT, up_gT, upR_eq, gT_n, gT_s, gU_s, gX_1, gX_0, gX_t, gW_tt, gW_ff, gW_tf, gW_ft, pick_val, pkD_t, pkD_f, seqK_x, seqK_r, turnK_x, turnK_r, seqK_br, blkK_br, turnK_br, finK_br, regK_br, upC_br, meet_n, meet_e, meet_st, meet_eff, meet_b, meet_i, meet_s, mgL_cons, mgL_nil, h1, h2, w1, dot_ext, dot_ne, e, c, c', ih]
    · have c' := eq_false c
      simp [-seqK.eq_2, -finK.eq_3, -turnK.eq_2, -condK.eq_3, -ex_region, -ex_drawn, -drawK.eq_1, -drawK.eq_2, -ops_cons, -pure_cons, -up_cons, -upC.eq_1, -absPick, ex_regionL, ex_drawnL, drawK_p, drawK_u, ops_gT, pure_gT, up_gT, upR_eq, gT_n, gT_s, gU_s, gX_1, gX_0, gX_t, gW_tt, gW_ff, gW_tf, gW_ft, pick_val, pkD_t, pkD_f, seqK_x, seqK_r, turnK_x, turnK_r, seqK_br, blkK_br, turnK_br, finK_br, regK_br, upC_br, meet_n, meet_e, meet_st, meet_eff, meet_b, meet_i, meet_s, mgL_cons, mgL_nil, h1, h2, w1, dot_ext, dot_ne, e, c, c']
theorem sameD (a b : List Dot) (ha : a.length < 1000000000) : A.fn 84 [pv (lD a), pv (lD b)] [] = some (.one (bv (decide (a = b))), []) := by
  rw [fn_run hL Try.func84 rfl L84 (by rfl) rfl rfl rfl (by decide)]
  by_cases hl : a.length = b.length
  · have h := sameD_loop a b hl ha a.length 0 (by omega)
    simp at h
    by_cases c : a = b
    · have c' := eq_true c
      simp [c'] at h
      simp [Try.f84, -seqK.eq_2, -finK.eq_3, -turnK.eq_2, -condK.eq_3, -ex_region, -ex_drawn, -drawK.eq_1, -drawK.eq_2, -ops_cons, -pure_cons, -up_cons, -upC.eq_1, -absPick, ex_regionL, ex_drawnL, drawK_p, drawK_u, ops_gT, pure_gT, up_gT, upR_eq, gT_n, gT_s, gU_s, gX_1, gX_0, gX_t, gW_tt, gW_ff, gW_tf, gW_ft, pick_val, pkD_t, pkD_f, seqK_x, seqK_r, turnK_x, turnK_r, seqK_br, blkK_br, turnK_br, finK_br, regK_br, upC_br, meet_n, meet_e, meet_st, meet_eff, meet_b, meet_i, meet_s, mgL_cons, mgL_nil, hl, h, c']
    · have c' := eq_false c
      simp [c'] at h
      simp [Try.f84, -seqK.eq_2, -finK.eq_3, -turnK.eq_2, -condK.eq_3, -ex_region, -ex_drawn, -drawK.eq_1, -drawK.eq_2, -ops_cons, -pure_cons, -up_cons, -upC.eq_1, -absPick, ex_regionL, ex_drawnL, drawK_p, drawK_u, ops_gT, pure_gT, up_gT, upR_eq, gT_n, gT_s, gU_s, gX_1, gX_0, gX_t, gW_tt, gW_ff, gW_tf, gW_ft, pick_val, pkD_t, pkD_f, seqK_x, seqK_r, turnK_x, turnK_r, seqK_br, blkK_br, turnK_br, finK_br, regK_br, upC_br, meet_n, meet_e, meet_st, meet_eff, meet_b, meet_i, meet_s, mgL_cons, mgL_nil, hl, h, c']
  · have c : ¬ a = b := fun e => hl (by rw [e])
    have hl' : ¬ (a.length : Int) = b.length := by omega
    simp [Try.f84, -seqK.eq_2, -finK.eq_3, -turnK.eq_2, -condK.eq_3, -ex_region, -ex_drawn, -drawK.eq_1, -drawK.eq_2, -ops_cons, -pure_cons, -up_cons, -upC.eq_1, -absPick, ex_regionL, ex_drawnL, drawK_p, drawK_u, ops_gT, pure_gT, up_gT, upR_eq, gT_n, gT_s, gU_s, gX_1, gX_0, gX_t, gW_tt, gW_ff, gW_tf, gW_ft, pick_val, pkD_t, pkD_f, seqK_x, seqK_r, turnK_x, turnK_r, seqK_br, blkK_br, turnK_br, finK_br, regK_br, upC_br, meet_n, meet_e, meet_st, meet_eff, meet_b, meet_i, meet_s, mgL_cons, mgL_nil, hl, hl', c]
def aQ : Req := ⟨1, ⟨#[97]⟩, ⟨#[]⟩, ⟨#[120]⟩, 0⟩
def aI1 : Item := ⟨⟨#[97]⟩, ⟨#[]⟩, 1, ⟨#[120]⟩, 0, ⟨1, 1, 0⟩⟩
theorem norm_one (x : Item) : normL [x] = [x] := normL_self (List.pairwise_singleton _ _)
theorem normL_nil : normL [] = [] := normL_self List.Pairwise.nil
theorem sortD_nil : sortD [] = [] := by simp [sortD]
theorem sortD_one (d : Dot) : sortD [d] = [d] := by simp [sortD]
theorem awake_make : makeE 1 1 [] [aQ, aQ] = ([⟨0, ⟨#[97]⟩, ⟨#[]⟩, 1, ⟨#[120]⟩, 0, []⟩, ⟨1, ⟨#[97]⟩, ⟨#[]⟩, 1, ⟨#[120]⟩, 0, [⟨1, 1, 0⟩]⟩], 0) := by
  have f1 : formedQ aQ = true := by decide
  have d1 : dropsL aQ 1 [] = [] := by unfold dropsL pick; rw [List.filter_nil, List.map_nil, sortD_nil]; rfl
  have s1 : doE 1 1 [] [⟨0, ⟨#[97]⟩, ⟨#[]⟩, 1, ⟨#[120]⟩, 0, []⟩] = [aI1] := by
    show normL (if (1 : Int) = 0 then _ else _) = _
    rw [if_neg (by decide)]
    exact norm_one aI1
  have p1 : pick (takes aQ 1) Item.f5 [aI1] = [⟨1, 1, 0⟩] := by decide
  have d2 : dropsL aQ 1 [aI1] = [⟨1, 1, 0⟩] := by unfold dropsL; rw [p1, sortD_one]; rfl
  have o1 : oneE 1 1 0 [] aQ = (⟨0, ⟨#[97]⟩, ⟨#[]⟩, 1, ⟨#[120]⟩, 0, []⟩, true, 0) := by unfold oneE; rw [d1]; rfl
  have o2 : oneE 1 1 1 [aI1] aQ = (⟨1, ⟨#[97]⟩, ⟨#[]⟩, 1, ⟨#[120]⟩, 0, [⟨1, 1, 0⟩]⟩, true, 0) := by unfold oneE; rw [d2]; rfl
  unfold makeE
  rw [if_neg (by decide), if_neg (by decide), if_neg (by simp [f1])]
  simp only [makeG]
  have e0 : ((0 : Nat) : Int) = 0 := rfl
  have e1 : ((0 + 1 : Nat) : Int) = 1 := rfl
  rw [e0, o1]
  simp only [if_pos]
  rw [s1, e1, o2]
  simp
theorem awake12 : A.fn 43 [] [] = some (.one (bv true), []) := by
  have h1 := mintMake 1 1 [] [aQ, aQ] (by decide) (by simp) (by
    intro q hq
    have : q = aQ := by simpa using hq
    subst this
    exact ⟨by unfold I64; decide, by unfold I64; decide⟩) (by decide)
  rw [awake_make] at h1
  have h2 := sameD [⟨1, 1, 0⟩] [⟨1, 1, 0⟩] (by decide)
  have h3 := mformed ⟨4, ⟨#[97]⟩, ⟨#[]⟩, ⟨#[]⟩, 1⟩
  rw [show formedQ ⟨4, ⟨#[97]⟩, ⟨#[]⟩, ⟨#[]⟩, 1⟩ = true by decide] at h3
  simp [ag, encQ, aQ, lI, lQ, lE, lD, encE, encD] at h1 h2 h3
  rw [fn_run hL Try.func43 rfl L43 (by rfl) rfl rfl rfl (by decide)]
  simp [Try.f43, -seqK.eq_2, -finK.eq_3, -turnK.eq_2, -condK.eq_3, -ex_region, -ex_drawn, -drawK.eq_1, -drawK.eq_2, -ops_cons, -pure_cons, -up_cons, -upC.eq_1, -absPick, ex_regionL, ex_drawnL, drawK_p, drawK_u, ops_gT, pure_gT, up_gT, upR_eq, gT_n, gT_s, gU_s, gX_1, gX_0, gX_t, gW_tt, gW_ff, gW_tf, gW_ft, pick_val, pkD_t, pkD_f, seqK_x, seqK_r, turnK_x, turnK_r, seqK_br, blkK_br, turnK_br, finK_br, regK_br, upC_br, meet_n, meet_e, meet_st, meet_eff, meet_b, meet_i, meet_s, mgL_cons, mgL_nil, h1, h2, h3]
/-- Formed items in their one form, none of which has a dot of a node from a number on. -/
def usualN (node seq : Int) (x : Item) : Bool := formedI x && !(decide (x.f5.f0 = node) && decide (seq ≤ x.f5.f1))
def usualL (l : List Item) (node seq : Int) : Bool := shortL l && (decide (normL l = l) && l.all (usualN node seq))
theorem usual_loop (l : List Item) (node seq : Int) (hl : l.length < 1000000000) (n : Nat) : ∀ i : Nat, l.length = i + n →
    A.lp 46 0 (hd46_0 [pv (lI l), iv node, iv seq, iv i] []) = some (if (l.drop i).all (usualN node seq) = true then (.exit 0, ex46_0 [nov] []) else (.ret, ex46_0 [bv false] [])) := by
  induction n with
  | zero =>
    intro i hi
    rw [lp_run hL Try.func46 rfl (by rfl) 0 rfl]
    obtain rfl : i = l.length := by omega
    simp
  | succ n ih =>
    intro i hi
    have h1 : i < l.length := by omega
    have ih := ih (i + 1) (by omega)
    have w1 : IntKind.i64.wrap ((i : Int) + 1) = i + 1 := wr _ (by omega) (by omega)
    have q1 := formed l[i]
    rw [List.drop_eq_getElem_cons h1, List.all_cons]
    rw [lp_run hL Try.func46 rfl (by rfl) 0 rfl]
    simp [ag, encI] at q1
    simp [-List.all_eq_true] at ih
    simp [-seqK.eq_2, -finK.eq_3, -turnK.eq_2, -condK.eq_3, -ex_region, -ex_drawn, -drawK.eq_1, -drawK.eq_2, -ops_cons, -pure_cons, -up_cons, -upC.eq_1, -absPick, ex_regionL, ex_drawnL, drawK_p, drawK_u, ops_gT, pure_gT, up_gT, upR_eq, gT_n, gT_s, gU_s, gX_1, gX_0, gX_t, gW_tt, gW_ff, gW_tf, gW_ft, pick_val, pkD_t, pkD_f, seqK_x, seqK_r, turnK_x, turnK_r, seqK_br, blkK_br, turnK_br, finK_br, regK_br, upC_br, meet_n, meet_e, meet_st, meet_eff, meet_b, meet_i, meet_s, mgL_cons, mgL_nil, h1, w1, q1, ih, -List.all_eq_true]
    clear ih q1
    unfold usualN
    repeat' refine brB_is.2 ⟨fun _ => ?_, fun _ => ?_⟩
    all_goals grind
theorem usual (l : List Item) (node seq : Int) : A.fn 46 [pv (lI l), iv node, iv seq] [] = some (.one (bv (usualL l node seq)), []) := by
  have k1 := short09 l
  unfold usualL
  cases s1 : shortL l with
  | false =>
    rw [s1] at k1
    rw [fn_run hL Try.func46 rfl L46 (by rfl) rfl rfl rfl (by decide)]
    simp [Try.f46, -seqK.eq_2, -finK.eq_3, -turnK.eq_2, -condK.eq_3, -ex_region, -ex_drawn, -drawK.eq_1, -drawK.eq_2, -ops_cons, -pure_cons, -up_cons, -upC.eq_1, -absPick, ex_regionL, ex_drawnL, drawK_p, drawK_u, ops_gT, pure_gT, up_gT, upR_eq, gT_n, gT_s, gU_s, gX_1, gX_0, gX_t, gW_tt, gW_ff, gW_tf, gW_ft, pick_val, pkD_t, pkD_f, seqK_x, seqK_r, turnK_x, turnK_r, seqK_br, blkK_br, turnK_br, finK_br, regK_br, upC_br, meet_n, meet_e, meet_st, meet_eff, meet_b, meet_i, meet_s, mgL_cons, mgL_nil, k1]
  | true =>
    rw [s1] at k1
    have n1 : l.length ≤ 60 := by simp [shortL] at s1; omega
    have nn : (normL l).length < 1000000000 := by have := normL_len2 l; omega
    have q1 := itemNorm l (by omega)
    have q2 := same09 (normL l) l nn
    have q3 := usual_loop l node seq (by omega) l.length 0 (by omega)
    simp only [rI, pinN] at q1
    simp [-List.all_eq_true] at q3
    cases c : l.all (usualN node seq) <;> by_cases d : normL l = l
    all_goals
      simp [c, d] at q2 q3
      rw [fn_run hL Try.func46 rfl L46 (by rfl) rfl rfl rfl (by decide)]
      simp [Try.f46, -seqK.eq_2, -finK.eq_3, -turnK.eq_2, -condK.eq_3, -ex_region, -ex_drawn, -drawK.eq_1, -drawK.eq_2, -ops_cons, -pure_cons, -up_cons, -upC.eq_1, -absPick, ex_regionL, ex_drawnL, drawK_p, drawK_u, ops_gT, pure_gT, up_gT, upR_eq, gT_n, gT_s, gU_s, gX_1, gX_0, gX_t, gW_tt, gW_ff, gW_tf, gW_ft, pick_val, pkD_t, pkD_f, seqK_x, seqK_r, turnK_x, turnK_r, seqK_br, blkK_br, turnK_br, finK_br, regK_br, upC_br, meet_n, meet_e, meet_st, meet_eff, meet_b, meet_i, meet_s, mgL_cons, mgL_nil, k1, q1, q2, q3, d]
end Go.E2.S
