/- VTc: VT4, VT5. -/
import Derived.Test.YtiliffhopdiepaaGreatVT3
import Derived.Test.YtiliffhopdiepaaGreatVZa
/-! Messages: msg.reaches, Equal of items, Formed. -/
namespace Go.E2.S
open Go Go.E2 Go.RowKit Go.Proofs
set_option linter.unusedVariables false
set_option linter.unusedSimpArgs false
set_option maxHeartbeats 4000000
set_option maxRecDepth 10000
def nextsV : List Int → List Txn → List Int
  | v, [] => v
  | v, t :: l => nextsV (nextV v t) l
theorem nextsV_len : ∀ (l : List Txn) (v : List Int), (nextsV v l).length ≤ max v.length 8
  | [], v => by unfold nextsV; omega
  | t :: l, v => by
    unfold nextsV
    have h1 := nextsV_len l (nextV v t)
    have h2 := nextV_len v t
    omega
def reachM (a b : List Int) (l : List Txn) : Bool := chainT a l && decide (nextsV a l = b)
theorem reach_loop (b : List Int) (l : List Txn) (hl : l.length < 1000000) (n : Nat) : ∀ (i : Nat) (v : List Int), l.length = i + n → v.length < 1000000 →
    A.lp 70 0 (hd70_0 [pv (lZ v), pv (lZ b), pv (lT l), iv l.length, iv i] []) = some (.exit 0, ex70_0 [pv (lZ (nextsV v (l.drop i))), pv (lZ b)] []) := by
  induction n with
  | zero =>
    intro i v hi hv
    rw [lp_run hL Tryz.func70 rfl (by rfl) 0 rfl]
    obtain rfl : i = l.length := by omega
    simp [nextsV]
  | succ n ih =>
    intro i v hi hv
    have h2 : i < l.length := by omega
    have q := nextV_len v l[i]
    have ih := ih (i + 1) (nextV v l[i]) (by omega) (by omega)
    have w6 : IntKind.i64.wrap ((i : Int) + 1) = i + 1 := wr _ (by omega) (by omega)
    have q2 := orderNext v l[i] (by omega)
    rw [List.drop_eq_getElem_cons h2]
    unfold nextsV
    generalize nextV v l[i] = nv at *
    simp [ag] at q2
    rw [lp_run hL Tryz.func70 rfl (by rfl) 0 rfl]
    simp [h2, q2, w6]
    simp at ih
    exact ih
theorem msgReaches (a b : List Int) (l : List Txn) (ha : a.length < 1000000) (hl : l.length < 1000000) (h1 : ∀ t ∈ l, t.f1 ≤ 9223372036854775807 ∧ t.f2.length < 1000000000) : A.fn 70 [pv (lZ a), pv (lZ b), pv (lT l)] [] = some (.one (bv (reachM a b l)), []) := by
  have q1 := orderChain a l ha hl h1
  have h := reach_loop b l hl l.length 0 a (by omega) ha
  have hn : (nextsV a l).length ≤ max a.length 8 := nextsV_len l a
  have q2 := equalZ (nextsV a l) b (by omega)
  rw [List.drop_zero] at h
  unfold reachM
  generalize nextsV a l = z at *
  generalize chainT a l = c at *
  generalize hd : decide (z = b) = d at *
  simp at h
  rw [fn_run hL Tryz.func70 rfl L70 (by rfl) rfl rfl rfl (by decide)]
  cases c <;> cases d <;> simp [Tryz.f70, q1, h, q2]
theorem equalI_loop (a b : List Item) (hl : a.length = b.length) (ha : a.length < 1000000000) (n : Nat) : ∀ i : Nat, a.length = i + n →
    A.lp 64 0 (hd64_0 [pv (lI a), pv (lI b), iv a.length, iv i] []) = some (if a.drop i = b.drop i then (.exit 0, ex64_0 [nov] []) else (.ret, ex64_0 [bv false] [])) := by
  induction n with
  | zero =>
    intro i hi
    rw [lp_run hL Tryz.func64 rfl (by rfl) 0 rfl]
    rw [List.drop_of_length_le (by omega), List.drop_of_length_le (by omega)]
    obtain rfl : i = a.length := by omega
    simp
  | succ n ih =>
    intro i hi
    have h1 : i < a.length := by omega
    have h2 : i < b.length := by omega
    have e := drop_eq a b i h1 h2
    have := ih (i + 1) (by omega)
    have w6 : IntKind.i64.wrap ((i : Int) + 1) = i + 1 := wr _ (by omega) (by omega)
    have r := item_ne a[i] b[i]
    rw [lp_run hL Tryz.func64 rfl (by rfl) 0 rfl]
    by_cases h : a[i] = b[i]
    · have r' := r.trans (show (!decide (a[i] = b[i])) = false by rw [decide_eq_true h]; rfl)
      simp at this
      simp only [e, h, true_and]
      simp [h1, h2, w6, r']
      exact this
    · have r' := r.trans (show (!decide (a[i] = b[i])) = true by rw [decide_eq_false h]; rfl)
      simp only [e, h, false_and, if_false]
      simp [h1, h2, r']
theorem equalI (a b : List Item) (ha : a.length < 1000000000) : A.fn 64 [pv (lI a), pv (lI b)] [] = some (.one (bv (decide (a = b))), []) := by
  rw [fn_run hL Tryz.func64 rfl L64 (by rfl) rfl rfl rfl (by decide)]
  by_cases hl : a.length = b.length
  · have := equalI_loop a b hl ha a.length 0 (by omega)
    by_cases h : a = b
    · simp [Tryz.f64, hl, h] at this ⊢
      simp [this]
    · simp [Tryz.f64, hl, h] at this ⊢
      simp [this]
  · have h : a ≠ b := fun e => hl (by rw [e])
    have hl' : ¬ (a.length : Int) = b.length := by omega
    simp [Tryz.f64, hl, hl', h]
theorem form1M (e : Eff) (m : Msg) (hz : m.f6.length < 1000000000) : A.fn 69 [ag (encE e), pv (.ref (encM m))] [] = some (.one (bv (!coversL m.f6 e.f1)), []) := by
  have q := covers m.f6 e.f1 hz
  rw [fn_run hL Tryz.func69 rfl L69 (by rfl) rfl rfl rfl (by decide)]
  simp [Tryz.f69, -seqK.eq_2, -finK.eq_3, -turnK.eq_2, -condK.eq_3, -ex_region, -ex_drawn, -drawK.eq_1, -drawK.eq_2, -ops_cons, -pure_cons, -up_cons, -upC.eq_1, -absPick, ex_regionL, ex_drawnL, drawK_p, drawK_u, ops_gT, pure_gT, up_gT, upR_eq, gT_n, gT_s, gU_s, gX_1, gX_0, gX_t, gW_tt, gW_ff, gW_tf, gW_ft, pick_val, pkD_t, pkD_f, seqK_x, seqK_r, turnK_x, turnK_r, seqK_br, blkK_br, turnK_br, finK_br, regK_br, upC_br, meet_n, meet_e, meet_st, meet_eff, meet_b, meet_i, meet_s, mgL_cons, mgL_nil, q]
def okI (m : Msg) (x : Item) : Bool := formedI x && (coversL m.f6 x.f0 && hasV m.f3 x.f5)
def okT (m : Msg) (t : Txn) : Bool := formedT t && !(decide (m.f0 = 4) && t.f3.any fun e => !coversL m.f6 e.f1)
def headM (m : Msg) : Bool := bareM m && (!decide (m.f1 < 0) && (!decide (1073741824 < m.f1) && (heardV m.f3 && (heardV m.f4 && (rightZ m.f5 && (rightZ m.f6 && (!decide (32768 < m.f7.length) && !decide (4096 < m.f8.length))))))))
def formedM (m : Msg) : Bool := headM m && (decide (normL m.f7 = m.f7) && (m.f7.all (okI m) && (m.f8.all (okT m) && (!decide (m.f0 = 4) || reachM m.f4 m.f3 m.f8))))
abbrev oM (m : Msg) : List Upd := [(2000, 0, some (.blk ((encM m).map .pv)))]
theorem formI_loop (m : Msg) (hl : m.f7.length < 1000000) (hz : m.f6.length < 1000000000) (n : Nat) : ∀ i : Nat, m.f7.length = i + n →
    A.lp 17 0 (hd17_0 [.at (.ptr 2000 0 0), pv (lI m.f7), iv m.f7.length, iv i] (oM m)) =
      some (if (m.f7.drop i).all (okI m) = true then (.exit 0, ex17_0 [.at (.ptr 2000 0 0), nov] (oM m)) else (.ret, ex17_0 [.at (.ptr 2000 0 0), bv false] (oM m))) := by
  induction n with
  | zero =>
    intro i hi
    rw [lp_run hL Tryz.func17 rfl (by rfl) 0 rfl]
    obtain rfl : i = m.f7.length := by omega
    simp
  | succ n ih =>
    intro i hi
    have h2 : i < m.f7.length := by omega
    have ih := ih (i + 1) (by omega)
    have w6 : IntKind.i64.wrap ((i : Int) + 1) = i + 1 := wr _ (by omega) (by omega)
    have q1 := formed m.f7[i]
    have q2 := covers m.f6 m.f7[i].f0 hz
    have q3 := vecHas m.f3 m.f7[i].f5
    rw [List.drop_eq_getElem_cons h2, List.all_cons]
    unfold okI at ih ⊢
    rw [lp_run hL Tryz.func17 rfl (by rfl) 0 rfl]
    simp [ag, encI, encD] at q1 q3
    simp [-List.all_eq_true] at ih
    cases c1 : formedI m.f7[i] with
    | false =>
      rw [c1] at q1
      simp [h2, q1, q2, q3, w6, -List.all_eq_true]
    | true =>
      rw [c1] at q1
      cases c2 : coversL m.f6 m.f7[i].f0 with
      | false =>
        rw [c2] at q2
        simp [h2, q1, q2, q3, w6, -List.all_eq_true]
      | true =>
        rw [c2] at q2
        cases c3 : hasV m.f3 m.f7[i].f5 with
        | false =>
          rw [c3] at q3
          simp [h2, q1, q2, q3, w6, -List.all_eq_true]
        | true =>
          rw [c3] at q3
          simp [h2, q1, q2, q3, w6, -List.all_eq_true]
          exact ih
def WfM (m : Msg) : Prop := ∀ t ∈ m.f8, WfT t
/-- A message that is no delta. -/
theorem formT_loop (m : Msg) (hk : ¬ m.f0 = 4) (hw : WfM m) (hl : m.f8.length < 1000000) (n : Nat) : ∀ i : Nat, m.f8.length = i + n →
    A.lp 17 2 (hd17_2 [.at (.ptr 2000 0 0), pv (lT m.f8), iv m.f8.length, iv i] (oM m)) =
      some (if (m.f8.drop i).all (okT m) = true then (.exit 2, ex17_2 [.at (.ptr 2000 0 0), nov] (oM m)) else (.ret, ex17_2 [.at (.ptr 2000 0 0), bv false] (oM m))) := by
  induction n with
  | zero =>
    intro i hi
    rw [lp_run hL Tryz.func17 rfl (by rfl) 2 rfl]
    obtain rfl : i = m.f8.length := by omega
    simp
  | succ n ih =>
    intro i hi
    have h2 : i < m.f8.length := by omega
    have ih := ih (i + 1) (by omega)
    have w6 : IntKind.i64.wrap ((i : Int) + 1) = i + 1 := wr _ (by omega) (by omega)
    have q1 := txnFormed m.f8[i] (hw _ (List.getElem_mem h2))
    rw [List.drop_eq_getElem_cons h2, List.all_cons]
    unfold okT at ih ⊢
    rw [lp_run hL Tryz.func17 rfl (by rfl) 2 rfl]
    simp [ag] at q1
    simp [-List.all_eq_true, hk] at ih
    cases c1 : formedT m.f8[i] with
    | false =>
      rw [c1] at q1
      simp [h2, q1, w6, hk, -List.all_eq_true]
    | true =>
      rw [c1] at q1
      simp [h2, q1, w6, hk, -List.all_eq_true]
      exact ih
/-- A delta, once the message is frozen. -/
theorem formD_loop (m : Msg) (hk : m.f0 = 4) (hw : WfM m) (hz : m.f6.length < 1000000000) (he : ∀ t ∈ m.f8, t.f3.length < 1000000000) (hl : m.f8.length < 1000000) (n : Nat) : ∀ i : Nat, m.f8.length = i + n →
    A.lp 17 2 (hd17_2 [pv (.ref (encM m)), pv (lT m.f8), iv m.f8.length, iv i] []) =
      some (if (m.f8.drop i).all (okT m) = true then (.exit 2, ex17_2 [pv (.ref (encM m)), nov] []) else (.ret, ex17_2 [pv (.ref (encM m)), bv false] [])) := by
  induction n with
  | zero =>
    intro i hi
    rw [lp_run hL Tryz.func17 rfl (by rfl) 2 rfl]
    obtain rfl : i = m.f8.length := by omega
    simp
  | succ n ih =>
    intro i hi
    have h2 : i < m.f8.length := by omega
    have ih := ih (i + 1) (by omega)
    have w6 : IntKind.i64.wrap ((i : Int) + 1) = i + 1 := wr _ (by omega) (by omega)
    have q1 := txnFormed m.f8[i] (hw _ (List.getElem_mem h2))
    have q2 := hasW m.f8[i].f3 69 [.ref (encM m)] (fun e => !coversL m.f6 e.f1) (by simp) (he _ (List.getElem_mem h2)) fun e _ => form1M e m hz
    rw [List.drop_eq_getElem_cons h2, List.all_cons]
    unfold okT at ih ⊢
    generalize (m.f8[i].f3.any fun e => !coversL m.f6 e.f1) = b2 at *
    rw [lp_run hL Tryz.func17 rfl (by rfl) 2 rfl]
    simp [ag, hk] at q1 q2
    simp [-List.all_eq_true, hk] at ih
    cases c1 : formedT m.f8[i] with
    | false =>
      rw [c1] at q1
      simp [h2, q1, w6, hk, -List.all_eq_true]
    | true =>
      rw [c1] at q1
      cases b2 with
      | true => simp [h2, q1, q2, w6, hk, -List.all_eq_true]
      | false =>
        simp [h2, q1, q2, w6, hk, -List.all_eq_true]
        exact ih
theorem formD_loop0 (m : Msg) (hk : m.f0 = 4) (hw : WfM m) (hz : m.f6.length < 1000000000) (he : ∀ t ∈ m.f8, t.f3.length < 1000000000) (hl : m.f8.length < 1000000) (h0 : 0 < m.f8.length) :
    A.lp 17 2 (hd17_2 [.at (.ptr 2000 0 0), pv (lT m.f8), iv m.f8.length, iv 0] (oM m)) =
      some (if m.f8.all (okT m) = true then (.exit 2, ex17_2 [pv (.ref (encM m)), nov] []) else if formedT m.f8[0] = true then (.ret, ex17_2 [pv (.ref (encM m)), bv false] []) else (.ret, ex17_2 [.at (.ptr 2000 0 0), bv false] (oM m))) := by
  have h2 : 0 < m.f8.length := h0
  have ih := formD_loop m hk hw hz he hl (m.f8.length - 1) 1 (by omega)
  have w6 : IntKind.i64.wrap (1 : Int) = 1 := wr _ (by omega) (by omega)
  have q1 := txnFormed m.f8[0] (hw _ (List.getElem_mem h2))
  have q2 := hasW m.f8[0].f3 69 [.ref (encM m)] (fun e => !coversL m.f6 e.f1) (by simp) (he _ (List.getElem_mem h2)) fun e _ => form1M e m hz
  have eD : m.f8 = m.f8[0] :: m.f8.drop 1 := by rw [← List.drop_eq_getElem_cons h2, List.drop_zero]
  have eA : m.f8.all (okT m) = (okT m m.f8[0] && (m.f8.drop 1).all (okT m)) := by
    conv => lhs; rw [eD]
    rw [List.all_cons]
  rw [eA]
  unfold okT at ih ⊢
  generalize (m.f8[0].f3.any fun e => !coversL m.f6 e.f1) = b2 at *
  rw [lp_run hL Tryz.func17 rfl (by rfl) 2 rfl]
  simp [ag, encM, hk] at q1 q2
  simp [-List.all_eq_true, encM, hk] at ih
  cases c1 : formedT m.f8[0] with
  | false =>
    rw [c1] at q1
    simp [h2, q1, w6, hk, -List.all_eq_true]
  | true =>
    rw [c1] at q1
    cases b2 with
    | true => simp [h2, q1, q2, w6, hk, -List.all_eq_true]
    | false =>
      simp [h2, q1, q2, w6, hk, encM, -List.all_eq_true]
      exact ih
end Go.E2.S
/-! Messages: Formed. -/
namespace Go.E2.S
open Go Go.E2 Go.RowKit Go.Proofs
set_option linter.unusedVariables false
set_option linter.unusedSimpArgs false
set_option maxHeartbeats 4000000
set_option maxRecDepth 10000
theorem msgFormed0 (m : Msg) (hh : headM m = false) (h3 : m.f3.length < 1000000) (h4 : m.f4.length < 1000000) (h5 : m.f5.length < 100000) (h6 : m.f6.length < 100000) : A.fn 17 [ag (encM m)] [] = some (.one (bv false), []) := by
  have q1 := msgBare m
  have q2 := msgHeard m.f3 (by omega)
  have q3 := msgHeard m.f4 (by omega)
  have q4 := zoneRight m.f5 h5
  have q5 := zoneRight m.f6 h6
  simp [ag, encM] at q1
  unfold headM at hh
  rw [fn_run hL Tryz.func17 rfl L17 (by rfl) rfl rfl rfl (by decide)]
  simp [Tryz.f17, -seqK.eq_2, -finK.eq_3, -turnK.eq_2, -condK.eq_3, -ex_region, -ex_drawn, -drawK.eq_1, -drawK.eq_2, -ops_cons, -pure_cons, -up_cons, -upC.eq_1, -absPick, ex_regionL, ex_drawnL, drawK_p, drawK_u, ops_gT, pure_gT, up_gT, upR_eq, gT_n, gT_s, gU_s, gX_1, gX_0, gX_t, gW_tt, gW_ff, gW_tf, gW_ft, pick_val, pkD_t, pkD_f, seqK_x, seqK_r, turnK_x, turnK_r, seqK_br, blkK_br, turnK_br, finK_br, regK_br, upC_br, meet_n, meet_e, meet_st, meet_eff, meet_b, meet_i, meet_s, mgL_cons, mgL_nil, q1, q2, q3, q4, q5]
  clear q1 q2 q3 q4 q5
  refine brB_is.2 ⟨fun _ => rfl, fun h => ?_⟩
  exfalso
  simp only [Bool.or_eq_false_iff, Bool.not_eq_false', decide_eq_false_iff_not] at h
  obtain ⟨g1, g2, g3, g4, g5, g6, g7, g8, g9⟩ := h
  have g8' : ¬ 32768 < m.f7.length := by omega
  have g9' : ¬ 4096 < m.f8.length := by omega
  rw [g1, g4, g5, g6, g7, decide_eq_false g2, decide_eq_false g3, decide_eq_false g8', decide_eq_false g9'] at hh
  cases hh
theorem msgFormed1 (m : Msg) (hh : headM m = true) (hw : WfM m) (h3 : m.f3.length < 1000000) (h4 : m.f4.length < 1000000) (h5 : m.f5.length < 100000) (h6 : m.f6.length < 100000) (h7 : m.f7.length < 1000000000) (h8 : m.f8.length < 1000000)
    (hb : ∀ t ∈ m.f8, t.f1 ≤ 9223372036854775807 ∧ t.f2.length < 1000000000 ∧ t.f3.length < 1000000000) : A.fn 17 [ag (encM m)] [] = some (.one (bv (decide (normL m.f7 = m.f7) && (m.f7.all (okI m) && (m.f8.all (okT m) && (!decide (m.f0 = 4) || reachM m.f4 m.f3 m.f8))))), []) := by
  have q1 := msgBare m
  have q2 := msgHeard m.f3 (by omega)
  have q3 := msgHeard m.f4 (by omega)
  have q4 := zoneRight m.f5 h5
  have q5 := zoneRight m.f6 h6
  have q6 := itemNorm m.f7 h7
  have hn := normL_len m.f7
  have q7 := equalI (normL m.f7) m.f7 (by omega)
  have q8 := msgReaches m.f4 m.f3 m.f8 h4 h8 fun t h => ⟨(hb t h).1, (hb t h).2.1⟩
  have z1 := formI_loop m (by simp [headM] at hh; omega) (by omega) m.f7.length 0 (by omega)
  have z2 := fun hk => formT_loop m hk hw h8 m.f8.length 0 (by omega)
  have z3 := fun hk => formD_loop0 m hk hw (by omega) (fun t h => (hb t h).2.2) h8
  have z4 := fun hk => formD_loop m hk hw (by omega) (fun t h => (hb t h).2.2) h8 0 m.f8.length (by omega)
  rw [List.drop_zero] at z1
  unfold headM at hh
  simp only [Bool.and_eq_true, Bool.not_eq_true', decide_eq_false_iff_not] at hh
  obtain ⟨g1, g2, g3, g4, g5, g6, g7, g8, g9⟩ := hh
  rw [g1] at q1
  rw [g4] at q2
  rw [g5] at q3
  rw [g6] at q4
  rw [g7] at q5
  have g8' : ¬ (32768 : Int) < m.f7.length := by omega
  have g9' : ¬ (4096 : Int) < m.f8.length := by omega
  simp [ag, encM] at q1
  simp [rI] at q6
  generalize normL m.f7 = nl at *
  generalize reachM m.f4 m.f3 m.f8 = b8 at *
  by_cases e : nl = m.f7
  · rw [decide_eq_true e] at q7 ⊢
    rw [fn_run hL Tryz.func17 rfl L17 (by rfl) rfl rfl rfl (by decide)]
    cases b1 : m.f7.all (okI m) with
    | false =>
      rw [b1] at z1
      simp [oM, encM, -List.all_eq_true] at z1
      simp [Tryz.f17, q1, q2, q3, q4, q5, q6, q7, g2, g3, g8', g9', -List.all_eq_true, -Int.not_lt]
      rw [if_pos ?q]
      (case q => kernel_rfl)
      simp [q6, q7, z1, -List.all_eq_true]
    | true =>
      rw [b1] at z1
      simp [oM, encM, -List.all_eq_true] at z1
      by_cases hk : m.f0 = 4
      · by_cases h0 : 0 < m.f8.length
        · replace z3 := z3 hk h0
          cases b2 : m.f8.all (okT m) with
          | false =>
            rw [b2] at z3
            cases b3 : formedT m.f8[0] with
            | false =>
              rw [b3] at z3
              simp [oM, encM, hk, -List.all_eq_true] at z1 z3
              simp [Tryz.f17, q1, q2, q3, q4, q5, q6, q7, g2, g3, g8', g9', -List.all_eq_true, -Int.not_lt]
              rw [if_pos ?q]
              (case q => kernel_rfl)
              simp [q6, q7, z1, z3, hk, -List.all_eq_true]
            | true =>
              rw [b3] at z3
              simp [oM, encM, hk, -List.all_eq_true] at z1 z3
              simp [Tryz.f17, q1, q2, q3, q4, q5, q6, q7, g2, g3, g8', g9', -List.all_eq_true, -Int.not_lt]
              rw [if_pos ?q]
              (case q => kernel_rfl)
              simp [q6, q7, z1, z3, hk, -List.all_eq_true]
          | true =>
            rw [b2] at z3
            simp [oM, encM, hk, -List.all_eq_true] at z1 z3
            simp [Tryz.f17, q1, q2, q3, q4, q5, q6, q7, g2, g3, g8', g9', -List.all_eq_true, -Int.not_lt]
            rw [if_pos ?q]
            (case q => kernel_rfl)
            simp [q6, q7, q8, z1, z3, hk, -List.all_eq_true]
        · have e8 : m.f8 = [] := by
            cases c : m.f8 with
            | nil => rfl
            | cons a b => rw [c] at h0; simp at h0
          have z5 : A.lp 17 2 (hd17_2 [.at (.ptr 2000 0 0), pv (lT m.f8), iv m.f8.length, iv 0] (oM m)) = some (.exit 2, ex17_2 [.at (.ptr 2000 0 0), nov] (oM m)) := by
            rw [lp_run hL Tryz.func17 rfl (by rfl) 2 rfl]
            simp [e8]
          simp [oM, encM, hk, e8, -List.all_eq_true] at z1 z5
          rw [e8] at q8
          simp [Tryz.f17, q1, q2, q3, q4, q5, q6, q7, g2, g3, g8', g9', -List.all_eq_true, -Int.not_lt]
          rw [if_pos ?q]
          (case q => kernel_rfl)
          simp [q6, q7, q8, z1, z5, hk, e8, -List.all_eq_true]
      · replace z2 := z2 hk
        rw [List.drop_zero] at z2
        cases b2 : m.f8.all (okT m) with
        | false =>
          rw [b2] at z2
          simp [oM, encM, -List.all_eq_true] at z2
          simp [Tryz.f17, q1, q2, q3, q4, q5, q6, q7, g2, g3, g8', g9', -List.all_eq_true, -Int.not_lt]
          rw [if_pos ?q]
          (case q => kernel_rfl)
          simp [q6, q7, z1, z2, hk, -List.all_eq_true]
        | true =>
          rw [b2] at z2
          simp [oM, encM, -List.all_eq_true] at z2
          simp [Tryz.f17, q1, q2, q3, q4, q5, q6, q7, g2, g3, g8', g9', -List.all_eq_true, -Int.not_lt]
          rw [if_pos ?q]
          (case q => kernel_rfl)
          simp [q6, q7, z1, z2, hk, -List.all_eq_true]
  · rw [decide_eq_false e] at q7 ⊢
    rw [fn_run hL Tryz.func17 rfl L17 (by rfl) rfl rfl rfl (by decide)]
    simp [Tryz.f17, q1, q2, q3, q4, q5, q6, q7, g2, g3, g8', g9', -List.all_eq_true, -Int.not_lt]
    rw [if_pos ?q]
    (case q => kernel_rfl)
    simp [q6, q7, -List.all_eq_true]
theorem msgFormed (m : Msg) (hw : WfM m) (h3 : m.f3.length < 1000000) (h4 : m.f4.length < 1000000) (h5 : m.f5.length < 100000) (h6 : m.f6.length < 100000) (h7 : m.f7.length < 1000000000) (h8 : m.f8.length < 1000000)
    (hb : ∀ t ∈ m.f8, t.f1 ≤ 9223372036854775807 ∧ t.f2.length < 1000000000 ∧ t.f3.length < 1000000000) : A.fn 17 [ag (encM m)] [] = some (.one (bv (formedM m)), []) := by
  unfold formedM
  cases hh : headM m with
  | false => exact msgFormed0 m hh h3 h4 h5 h6
  | true => exact msgFormed1 m hh hw h3 h4 h5 h6 h7 h8 hb
end Go.E2.S
