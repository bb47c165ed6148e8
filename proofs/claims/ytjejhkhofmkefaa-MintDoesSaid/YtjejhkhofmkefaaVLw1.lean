/- VLw1: VM12, VPM, VPM2. -/
import Derived.Test.YtjejhkhofmkefaaVMb
/-! MintNothing. -/
namespace Go.E2.S
open Go Go.E2 Go.RowKit Go.Proofs
set_option linter.unusedVariables false
set_option linter.unusedSimpArgs false
set_option maxHeartbeats 4000000
set_option maxRecDepth 10000
abbrev delQ (key fld elem : ByteArray) : Req := ⟨2, key, fld, elem, 0⟩
abbrev dropQ (key fld : ByteArray) : Req := ⟨5, key, fld, ⟨#[]⟩, 0⟩
abbrev oNo (key fld elem : ByteArray) : List Upd := [(2000, 0, some (.row true 5 [encQ (delQ key fld elem), encQ (dropQ key fld)]))]
theorem no_loop (l : List Item) (node seq : Int) (key fld elem : ByteArray) (hl : l.length < 1000000000) (n : Nat) : ∀ i : Nat, l.length = i + n →
    A.lp 5 0 (hd5_0 [pv (lI l), iv node, iv seq, sv key, sv fld, .at (.row 2000 0), iv i] (oNo key fld elem)) = some (if (l.drop i).any (inField key fld) = true then (.ret, ex5_0 [pv (lI l), iv node, iv seq, bv true, .at (.row 2000 0)] (oNo key fld elem)) else (.exit 0, ex5_0 [pv (lI l), iv node, iv seq, nov, .at (.row 2000 0)] (oNo key fld elem))) := by
  induction n with
  | zero =>
    intro i hi
    rw [lp_run hL Try.func5 rfl (by rfl) 0 rfl]
    obtain rfl : i = l.length := by omega
    simp
  | succ n ih =>
    intro i hi
    have h1 : i < l.length := by omega
    have ih := ih (i + 1) (by omega)
    have w1 : IntKind.i64.wrap ((i : Int) + 1) = i + 1 := wr _ (by omega) (by omega)
    rw [List.drop_eq_getElem_cons h1, List.any_cons]
    rw [lp_run hL Try.func5 rfl (by rfl) 0 rfl]
    simp [-List.any_eq_true, encQ, oNo] at ih
    simp [-seqK.eq_2, -finK.eq_3, -turnK.eq_2, -condK.eq_3, -ex_region, -ex_drawn, -drawK.eq_1, -drawK.eq_2, -ops_cons, -pure_cons, -up_cons, -upC.eq_1, -absPick, ex_regionL, ex_drawnL, drawK_p, drawK_u, ops_gT, pure_gT, up_gT, upR_eq, gT_n, gT_s, gU_s, gX_1, gX_0, gX_t, gW_tt, gW_ff, gW_tf, gW_ft, pick_val, pkD_t, pkD_f, seqK_x, seqK_r, turnK_x, turnK_r, seqK_br, blkK_br, turnK_br, finK_br, regK_br, upC_br, meet_n, meet_e, meet_st, meet_eff, meet_b, meet_i, meet_s, mgL_cons, mgL_nil, h1, w1, ih, -List.any_eq_true, encQ, oNo]
    clear ih
    unfold inField
    repeat' refine brB_is.2 ⟨fun _ => ?_, fun _ => ?_⟩
    all_goals grind
theorem dropsL_none (q : Req) (node : Int) (l : List Item) (h : l.any (inField q.f1 q.f2) = false) : dropsL q node l = [] := by
  have e : l.filter (takes q node) = [] := List.filter_eq_nil_iff.2 fun x hx => by
    rw [List.any_eq_false] at h
    have := h x hx
    simp [takes, this]
  unfold dropsL pick
  rw [e, List.map_nil, sortD_nil]
  rfl
theorem make_nothing (node seq : Int) (items : List Item) (key fld elem : ByteArray) (hn : 0 ≤ node) (hn1 : node < 8) (hs : 1 ≤ seq) (hs1 : seq ≤ 1073741824) (hf : formedQ (delQ key fld elem) = true) (h : items.any (inField key fld) = false) :
    makeE node seq items [delQ key fld elem, dropQ key fld] = ([], 0) := by
  have hf2 : formedQ (dropQ key fld) = true := by
    simp [formedQ] at hf ⊢
    exact ⟨⟨⟨hf.1.1, hf.1.2⟩, by decide⟩, rfl⟩
  have o1 : oneE node seq (0 : Nat) items (delQ key fld elem) = (⟨0, key, fld, 0, ⟨#[]⟩, 0, []⟩, false, 0) := by
    have d := dropsL_none (delQ key fld elem) node items h
    unfold oneE
    rw [d]
    rfl
  have o2 : oneE node seq (1 : Nat) items (dropQ key fld) = (⟨1, key, fld, 0, ⟨#[]⟩, 0, []⟩, false, 0) := by
    have d := dropsL_none (dropQ key fld) node items h
    unfold oneE
    rw [d]
    rfl
  unfold makeE
  rw [if_neg (by omega), if_neg (by simp), if_neg (by simp [hf, hf2])]
  simp only [makeG, o1, o2]
  simp
theorem mintNothing (l : List Item) (node seq : Int) (key fld elem : ByteArray) (hw : ∀ x ∈ l, WfI x) : A.fn 5 [pv (lI l), iv node, iv seq, sv key, sv fld, sv elem] [] = some (.one (bv true), []) := by
  have k0 := awake12
  have k1 := short09 l
  have k2 := mformed (delQ key fld elem)
  simp [ag, encQ] at k2
  cases s1 : shortL l with
  | false =>
    rw [s1] at k1
    rw [fn_run hL Try.func5 rfl L5 (by rfl) rfl rfl rfl (by decide)]
    simp [Try.f5, -seqK.eq_2, -finK.eq_3, -turnK.eq_2, -condK.eq_3, -ex_region, -ex_drawn, -drawK.eq_1, -drawK.eq_2, -ops_cons, -pure_cons, -up_cons, -upC.eq_1, -absPick, ex_regionL, ex_drawnL, drawK_p, drawK_u, ops_gT, pure_gT, up_gT, upR_eq, gT_n, gT_s, gU_s, gX_1, gX_0, gX_t, gW_tt, gW_ff, gW_tf, gW_ft, pick_val, pkD_t, pkD_f, seqK_x, seqK_r, turnK_x, turnK_r, seqK_br, blkK_br, turnK_br, finK_br, regK_br, upC_br, meet_n, meet_e, meet_st, meet_eff, meet_b, meet_i, meet_s, mgL_cons, mgL_nil, k0, k1]
  | true =>
    rw [s1] at k1
    have n1 : l.length ≤ 60 := by simp [shortL] at s1; omega
    cases s2 : formedQ (delQ key fld elem) with
    | false =>
      rw [s2] at k2
      rw [fn_run hL Try.func5 rfl L5 (by rfl) rfl rfl rfl (by decide)]
      simp [Try.f5, -seqK.eq_2, -finK.eq_3, -turnK.eq_2, -condK.eq_3, -ex_region, -ex_drawn, -drawK.eq_1, -drawK.eq_2, -ops_cons, -pure_cons, -up_cons, -upC.eq_1, -absPick, ex_regionL, ex_drawnL, drawK_p, drawK_u, ops_gT, pure_gT, up_gT, upR_eq, gT_n, gT_s, gU_s, gX_1, gX_0, gX_t, gW_tt, gW_ff, gW_tf, gW_ft, pick_val, pkD_t, pkD_f, seqK_x, seqK_r, turnK_x, turnK_r, seqK_br, blkK_br, turnK_br, finK_br, regK_br, upC_br, meet_n, meet_e, meet_st, meet_eff, meet_b, meet_i, meet_s, mgL_cons, mgL_nil, k0, k1, k2]
    | true =>
      rw [s2] at k2
      by_cases c : node < 0 ∨ 8 ≤ node ∨ seq < 1 ∨ 1073741824 < seq
      · have e : (decide (node < 0) || (decide (8 ≤ node) || (decide (seq < 1) || decide (1073741824 < seq)))) = true := by simp; exact c
        rw [fn_run hL Try.func5 rfl L5 (by rfl) rfl rfl rfl (by decide)]
        simp [Try.f5, -seqK.eq_2, -finK.eq_3, -turnK.eq_2, -condK.eq_3, -ex_region, -ex_drawn, -drawK.eq_1, -drawK.eq_2, -ops_cons, -pure_cons, -up_cons, -upC.eq_1, -absPick, ex_regionL, ex_drawnL, drawK_p, drawK_u, ops_gT, pure_gT, up_gT, upR_eq, gT_n, gT_s, gU_s, gX_1, gX_0, gX_t, gW_tt, gW_ff, gW_tf, gW_ft, pick_val, pkD_t, pkD_f, seqK_x, seqK_r, turnK_x, turnK_r, seqK_br, blkK_br, turnK_br, finK_br, regK_br, upC_br, meet_n, meet_e, meet_st, meet_eff, meet_b, meet_i, meet_s, mgL_cons, mgL_nil, k0, k1, k2, e]
      · have e1 : ¬ node < 0 := by omega
        have e2 : ¬ 8 ≤ node := by omega
        have e3 : ¬ seq < 1 := by omega
        have e4 : ¬ 1073741824 < seq := by omega
        have h := no_loop l node seq key fld elem (by omega) l.length 0 (by omega)
        simp [-List.any_eq_true, encQ, oNo] at h
        cases s3 : l.any (inField key fld) with
        | true =>
          rw [s3] at h
          rw [fn_run hL Try.func5 rfl L5 (by rfl) rfl rfl rfl (by decide)]
          simp [Try.f5, -seqK.eq_2, -finK.eq_3, -turnK.eq_2, -condK.eq_3, -ex_region, -ex_drawn, -drawK.eq_1, -drawK.eq_2, -ops_cons, -pure_cons, -up_cons, -upC.eq_1, -absPick, ex_regionL, ex_drawnL, drawK_p, drawK_u, ops_gT, pure_gT, up_gT, upR_eq, gT_n, gT_s, gU_s, gX_1, gX_0, gX_t, gW_tt, gW_ff, gW_tf, gW_ft, pick_val, pkD_t, pkD_f, seqK_x, seqK_r, turnK_x, turnK_r, seqK_br, blkK_br, turnK_br, finK_br, regK_br, upC_br, meet_n, meet_e, meet_st, meet_eff, meet_b, meet_i, meet_s, mgL_cons, mgL_nil, k0, k1, k2, e1, e2, e3, e4, h, -Int.not_lt]
        | false =>
          rw [s3] at h
          have q := mintMake node seq l [delQ key fld elem, dropQ key fld] (by omega) hw (by
            intro q hq
            simp at hq
            rcases hq with rfl | rfl <;> exact ⟨by unfold I64; simp, by unfold I64; simp⟩) (by simp)
          rw [make_nothing node seq l key fld elem (by omega) (by omega) (by omega) (by omega) s2 s3] at q
          simp [lQ, lE, encQ] at q
          rw [fn_run hL Try.func5 rfl L5 (by rfl) rfl rfl rfl (by decide)]
          simp [Try.f5, -seqK.eq_2, -finK.eq_3, -turnK.eq_2, -condK.eq_3, -ex_region, -ex_drawn, -drawK.eq_1, -drawK.eq_2, -ops_cons, -pure_cons, -up_cons, -upC.eq_1, -absPick, ex_regionL, ex_drawnL, drawK_p, drawK_u, ops_gT, pure_gT, up_gT, upR_eq, gT_n, gT_s, gU_s, gX_1, gX_0, gX_t, gW_tt, gW_ff, gW_tf, gW_ft, pick_val, pkD_t, pkD_f, seqK_x, seqK_r, turnK_x, turnK_r, seqK_br, blkK_br, turnK_br, finK_br, regK_br, upC_br, meet_n, meet_e, meet_st, meet_eff, meet_b, meet_i, meet_s, mgL_cons, mgL_nil, k0, k1, k2, e1, e2, e3, e4, h, q, -Int.not_lt]
end Go.E2.S
/-! Plain law: what requests make of items. No program in sight. -/
namespace Go.E2.S
open Go Go.E2 Go.RowKit Go.Proofs
set_option linter.unusedVariables false
set_option linter.unusedSimpArgs false
/-! ### Dots in order, each once -/
theorem ddup_mem : ∀ (p : Dot) (l : List Dot) (x : Dot), x ∈ ddup p l ∨ x = p ↔ x ∈ l ∨ x = p
  | p, [], x => by simp [ddup]
  | p, y :: l, x => by
    rw [ddup]
    by_cases c : y = p
    · rw [if_pos c, ddup_mem p l x]
      subst c
      simp only [List.mem_cons]
      grind
    · rw [if_neg c]
      have := ddup_mem y l x
      simp only [List.mem_cons]
      grind
theorem compD_mem (l : List Dot) (x : Dot) : x ∈ compD l ↔ x ∈ l := by
  cases l with
  | nil => rfl
  | cons y l =>
    have := ddup_mem y l x
    simp only [compD, List.mem_cons]
    grind
theorem sortD_mem (l : List Dot) (x : Dot) : x ∈ sortD l ↔ x ∈ l := (List.mergeSort_perm l _).mem_iff
theorem sortD_sorted (l : List Dot) : (sortD l).Pairwise fun x y => cmpD x y ≤ 0 := by
  have h := List.pairwise_mergeSort (le := fun x y : Dot => !decide (cmpD y x < 0)) (fun a b c h1 h2 => by
    simp only [Bool.not_eq_true', decide_eq_false_iff_not] at *
    have := good_cmpD.anti b a
    have := good_cmpD.anti c b
    have := good_cmpD.anti c a
    have := good_cmpD.trans a b c (by omega) (by omega)
    omega) (fun a b => by
    simp only [Bool.or_eq_true, Bool.not_eq_true', decide_eq_false_iff_not]
    have := good_cmpD.anti a b
    omega) l
  refine List.Pairwise.imp (fun {x y} h => ?_) h
  simp only [Bool.not_eq_true', decide_eq_false_iff_not] at h
  have := good_cmpD.anti y x
  omega
theorem ddup_up : ∀ (p : Dot) (l : List Dot), (p :: l).Pairwise (fun x y => cmpD x y ≤ 0) → (p :: ddup p l).Pairwise fun x y => cmpD x y < 0
  | p, [], h => by simp [ddup]
  | p, y :: l, h => by
    obtain ⟨h1, h2⟩ := List.pairwise_cons.1 h
    rw [ddup]
    by_cases c : y = p
    · rw [if_pos c]
      exact ddup_up p l (List.pairwise_cons.2 ⟨fun z hz => h1 z (.tail _ hz), (List.pairwise_cons.1 h2).2⟩)
    · rw [if_neg c]
      have ih := ddup_up y l h2
      have lt : cmpD p y < 0 := by
        rcases Int.lt_or_eq_of_le (h1 y (.head _)) with h | h
        · exact h
        · exact absurd (cmpD_zero _ _ h).symm c
      refine List.pairwise_cons.2 ⟨fun z hz => ?_, ih⟩
      rcases List.mem_cons.1 hz with rfl | hz
      · exact lt
      · exact ltD_trans lt ((List.pairwise_cons.1 ih).1 z hz)
theorem compD_up (l : List Dot) (h : l.Pairwise fun x y => cmpD x y ≤ 0) : (compD l).Pairwise fun x y => cmpD x y < 0 := by
  cases l with
  | nil => exact List.Pairwise.nil
  | cons y l => exact ddup_up y l h
theorem dropsL_mem (q : Req) (node : Int) (items : List Item) (d : Dot) : d ∈ dropsL q node items ↔ ∃ x ∈ items, takes q node x = true ∧ x.f5 = d := by
  unfold dropsL
  rw [compD_mem, sortD_mem]
  unfold pick
  simp only [List.mem_map, List.mem_filter]
  grind
theorem dropsL_up (q : Req) (node : Int) (items : List Item) : (dropsL q node items).Pairwise fun x y => cmpD x y < 0 := compD_up _ (sortD_sorted _)
/-! ### One step -/
/-- No item has a dot of the transaction from an effect on. -/
def Fresh (node seq : Int) (i : Nat) (l : List Item) : Prop := ∀ x ∈ l, ¬ (x.f5.f0 = node ∧ (seq < x.f5.f1 ∨ x.f5.f1 = seq ∧ (i : Int) ≤ x.f5.f2))
structure Good (node seq : Int) (i : Nat) (l : List Item) : Prop where
  up : UpI l
  fresh : Fresh node seq i l
def keepQ (q : Req) (node : Int) (l : List Item) : List Item := l.filter fun x => !takes q node x
theorem filter_drops {q : Req} {node : Int} {l : List Item} (hu : UpI l) : l.filter (fun x => !dotIn (dropsL q node l) x.f5) = keepQ q node l := by
  unfold keepQ
  refine List.filter_congr fun x hx => ?_
  congr 1
  rw [Bool.eq_iff_iff]
  have e : dotIn (dropsL q node l) x.f5 = true ↔ x.f5 ∈ dropsL q node l := by unfold dotIn; simp
  rw [e, dropsL_mem]
  constructor
  · rintro ⟨y, hy, ht, e⟩
    rw [← upI_dot hu y hy x hx e]
    exact ht
  · intro h
    exact ⟨x, hx, h, rfl⟩
theorem norm_mem1 {l : List Item} (h : ∀ x ∈ l, ∀ y ∈ l, y.f5 = x.f5 → y = x) (x : Item) : x ∈ normL l ↔ x ∈ l := by
  rw [normL_mem]
  exact ⟨fun h => h.1, fun hx => ⟨hx, fun y hy e => by rw [h x hx y hy e]; exact le_reflI x⟩⟩
theorem keepQ_mem {q : Req} {node : Int} {l : List Item} {x : Item} : x ∈ keepQ q node l ↔ x ∈ l ∧ takes q node x = false := by
  unfold keepQ
  rw [List.mem_filter]
  simp
theorem step_mem {node seq : Int} {i : Nat} {l : List Item} {q : Req} {e : Eff} (hg : Good node seq i l) (h0 : e.f0 = i) (h6 : e.f6 = dropsL q node l) (x : Item) :
    x ∈ stepE node seq l e ↔ x ∈ keepQ q node l ∨ (e.f3 ≠ 0 ∧ x = madeE node seq e) := by
  have hk : ∀ x ∈ keepQ q node l, x ∈ l := fun x hx => (keepQ_mem.1 hx).1
  unfold stepE
  rw [h6, filter_drops hg.up]
  by_cases c : e.f3 = 0
  · rw [if_pos c, norm_mem1 fun x hx y hy h => upI_dot hg.up y (hk y hy) x (hk x hx) h]
    simp [c]
  · rw [if_neg c]
    have hm : ∀ y ∈ keepQ q node l, y.f5 ≠ (madeE node seq e).f5 := fun y hy h => by
      refine hg.fresh y (hk y hy) ⟨?_, .inr ⟨?_, ?_⟩⟩
      · rw [h]; rfl
      · rw [h]; rfl
      · rw [h]; show (i : Int) ≤ e.f0; omega
    rw [norm_mem1 fun x hx y hy h => ?_]
    · simp [c]
    · rcases List.mem_append.1 hx with hx | hx <;> rcases List.mem_append.1 hy with hy | hy
      · exact upI_dot hg.up y (hk y hy) x (hk x hx) h
      · rw [List.mem_singleton.1 hy] at h
        exact absurd h.symm (hm x hx)
      · rw [List.mem_singleton.1 hx] at h
        exact absurd h (hm y hy)
      · rw [List.mem_singleton.1 hx, List.mem_singleton.1 hy]
theorem step_good {node seq : Int} {i : Nat} {l : List Item} {q : Req} {e : Eff} (hg : Good node seq i l) (h0 : e.f0 = i) (h6 : e.f6 = dropsL q node l) : Good node seq (i + 1) (stepE node seq l e) := by
  refine ⟨normL_up _, fun x hx => ?_⟩
  rcases (step_mem hg h0 h6 x).1 hx with h | ⟨_, rfl⟩
  · have := hg.fresh x (keepQ_mem.1 h).1
    intro h
    apply this
    refine ⟨h.1, ?_⟩
    rcases h.2 with h | h
    · exact .inl h
    · exact .inr ⟨h.1, by have := h.2; omega⟩
  · rintro ⟨_, h | h⟩
    · exact absurd h (Int.lt_irrefl _)
    · have : ((i + 1 : Nat) : Int) ≤ e.f0 := h.2
      omega
theorem Good.mono {node seq : Int} {i j : Nat} {l : List Item} (h : Good node seq i l) (hij : i ≤ j) : Good node seq j l := ⟨h.up, fun x hx hc => h.fresh x hx ⟨hc.1, hc.2.imp id fun a => ⟨a.1, by omega⟩⟩⟩
/-- What one request that is taken comes to. -/
theorem oneE_ok {node seq at_ : Int} {l : List Item} {q : Req} (h : (oneE node seq at_ l q).2.2 = 0) : (oneE node seq at_ l q).1.f0 = at_ ∧ (oneE node seq at_ l q).1.f6 = dropsL q node l ∧ (dropsL q node l).length ≤ 64 ∧ (oneE node seq at_ l q).1.f1 = q.f1 ∧ (oneE node seq at_ l q).1.f2 = q.f2 ∧
    (q.f0 = 1 → (oneE node seq at_ l q).2.1 = true ∧ (oneE node seq at_ l q).1.f3 = 1 ∧ (oneE node seq at_ l q).1.f4 = q.f3 ∧ (oneE node seq at_ l q).1.f5 = 0) ∧
    (q.f0 = 3 → (oneE node seq at_ l q).2.1 = true ∧ (oneE node seq at_ l q).1.f3 = 2 ∧ (oneE node seq at_ l q).1.f4 = q.f3 ∧ (oneE node seq at_ l q).1.f5 = 0) ∧
    (q.f0 = 4 → (oneE node seq at_ l q).2.1 = true ∧ incBad q node seq at_ l = false ∧ (oneE node seq at_ l q).1 = incE q node at_ l) ∧
    (q.f0 ≠ 1 → q.f0 ≠ 3 → q.f0 ≠ 4 → (oneE node seq at_ l q).2.1 = decide (0 < (dropsL q node l).length) ∧ (oneE node seq at_ l q).1.f3 = 0 ∧ (oneE node seq at_ l q).1.f4 = ⟨#[]⟩ ∧ (oneE node seq at_ l q).1.f5 = 0) := by
  unfold oneE at h ⊢
  by_cases c : 64 < (dropsL q node l).length
  · rw [if_pos c] at h; simp at h
  · rw [if_neg c] at h ⊢
    have c' : (dropsL q node l).length ≤ 64 := by omega
    by_cases c1 : q.f0 = 1
    · simp [c1, c']
    · by_cases c3 : q.f0 = 3
      · simp [c1, c3, c']
      · by_cases c4 : q.f0 = 4
        · simp only [c1, c3, c4, if_false, if_true] at h ⊢
          cases b : incBad q node seq at_ l
          · simp [b, c', c1, c3, c4, incE]
          · rw [b] at h; simp at h
        · simp [c1, c3, c4, c']
theorem oneE_bad {node seq at_ : Int} {l : List Item} {q : Req} : (oneE node seq at_ l q).2.2 = 0 ∨ (oneE node seq at_ l q).2.2 = 4 ∨ (oneE node seq at_ l q).2.2 = 5 := by
  unfold oneE
  repeat' split
  all_goals simp
end Go.E2.S
/-! Plain law: counting (MintCounts). No program in sight. -/
namespace Go.E2.S
open Go Go.E2 Go.RowKit Go.Proofs
set_option linter.unusedVariables false
set_option linter.unusedSimpArgs false
theorem upI_nodup {l : List Item} (h : UpI l) : l.Nodup := List.Pairwise.imp (fun {x y} h e => h.2 (by rw [e])) h
theorem perm_of {l m : List Item} (h1 : l.Nodup) (h2 : m.Nodup) (h : ∀ x, x ∈ l ↔ x ∈ m) : l.Perm m := (List.perm_ext_iff_of_nodup h1 h2).2 (fun x => h x)
theorem pick_perm {α : Type} {l m : List Item} (h : l.Perm m) (p : Item → Bool) (g : Item → α) : (pick p g l).Perm (pick p g m) := (h.filter p).map g
theorem sum_split (p t : Item → Bool) (g : Item → Int) (h : ∀ x, t x = true → p x = true) : ∀ l : List Item, (pick p g l).sum = (pick p g (l.filter fun x => !t x)).sum + (pick t g l).sum
  | [] => by simp [pick]
  | x :: l => by
    have ih := sum_split p t g h l
    cases c : t x
    · rw [List.filter_cons_of_pos (by simp [c]), pick_neg (p := t) c]
      cases d : p x
      · rw [pick_neg d, pick_neg d, ih]
      · rw [pick_pos d, pick_pos d, List.sum_cons, List.sum_cons, ih]; omega
    · rw [List.filter_cons_of_neg (by simp [c]), pick_pos (p := t) c, pick_pos (h x c), List.sum_cons, List.sum_cons, ih]; omega
theorem pick_app {α : Type} (p : Item → Bool) (g : Item → α) (l m : List Item) : pick p g (l ++ m) = pick p g l ++ pick p g m := by
  unfold pick; rw [List.filter_append, List.map_append]
theorem usual_good {l : List Item} {node seq : Int} (h : usualL l node seq = true) : Good node seq 0 l ∧ (∀ x ∈ l, formedI x = true) ∧ l.length ≤ 60 := by
  unfold usualL at h
  simp only [Bool.and_eq_true, decide_eq_true_eq, List.all_eq_true] at h
  obtain ⟨h1, h2, h3⟩ := h
  refine ⟨⟨h2 ▸ normL_up l, fun x hx hc => ?_⟩, fun x hx => ?_, ?_⟩
  · have := h3 x hx
    simp [usualN] at this
    have h5 := hc.2
    rcases this.2 with h4 | h4
    · exact h4 hc.1
    · omega
  · have := h3 x hx
    simp [usualN] at this
    exact this.1
  · unfold shortL at h1
    simp at h1
    omega
theorem step_perm {node seq : Int} {i : Nat} {l : List Item} {q : Req} {e : Eff} (hg : Good node seq i l) (h0 : e.f0 = i) (h6 : e.f6 = dropsL q node l) (h3 : e.f3 ≠ 0) : (stepE node seq l e).Perm (keepQ q node l ++ [madeE node seq e]) := by
  refine perm_of (upI_nodup (normL_up _)) ?_ fun x => ?_
  · refine List.nodup_append.2 ⟨(upI_nodup hg.up).filter _, by simp, fun x hx y hy e1 => ?_⟩
    subst e1
    rw [List.mem_singleton.1 hy] at hx
    refine hg.fresh _ (keepQ_mem.1 hx).1 ⟨rfl, .inr ⟨rfl, ?_⟩⟩
    show (i : Int) ≤ e.f0
    omega
  · rw [step_mem hg h0 h6]
    simp [h3]
theorem tot_ok {s : Int} (h : (tot s).2 = 0) : (tot s).1 = s ∧ I64 s := by
  unfold tot at h ⊢
  split
  · rename_i c; exact ⟨rfl, c⟩
  · rename_i c; rw [if_neg c] at h; simp at h
abbrev incQ (key fld : ByteArray) (n : Int) : Req := ⟨4, key, fld, ⟨#[]⟩, n⟩
theorem counts {l : List Item} {node seq : Int} {key fld : ByteArray} {n : Int} (hg : Good node seq 0 l) (hb : incBad (incQ key fld n) node seq 0 l = false) :
    (fieldV (stepE node seq l (incE (incQ key fld n) node 0 l)) key fld).f3 = false ∧ (fieldV (stepE node seq l (incE (incQ key fld n) node 0 l)) key fld).f0 = (fieldV l key fld).f0 ∧ (fieldV (stepE node seq l (incE (incQ key fld n) node 0 l)) key fld).f1 = (fieldV l key fld).f1 ∧
    ((fieldV l key fld).f3 = true ∨ (fieldV (stepE node seq l (incE (incQ key fld n) node 0 l)) key fld).f2 = (fieldV l key fld).f2 + n ∧ I64 ((fieldV l key fld).f2 + n)) := by
  unfold incBad at hb
  simp only [Bool.or_eq_false_iff, Bool.not_eq_false', decide_eq_true_eq] at hb
  obtain ⟨b1, b2⟩ := hb
  obtain ⟨t1, _⟩ := tot_ok b1
  have b2 : (fieldV (stepE node seq l (incE (incQ key fld n) node 0 l)) key fld).f3 = false := b2
  have hp := step_perm (q := incQ key fld n) (e := incE (incQ key fld n) node 0 l) hg rfl rfl (by simp [incE])
  generalize hs : stepE node seq l (incE (incQ key fld n) node 0 l) = m at *
  have ht : ∀ x, takes (incQ key fld n) node x = true → sel key fld 3 x = true := fun x h => by
    simp [takes, dropsQ, sel] at h ⊢
    exact ⟨h.1, h.2.1⟩
  have hk : ∀ (k : Int) (x : Item), k ≠ 3 → sel key fld k x = true → takes (incQ key fld n) node x = false := fun k x hk h => by
    simp [takes, dropsQ, sel] at h ⊢
    intro _ h3
    omega
  have same : ∀ (k : Int), k ≠ 3 → onceL (pick (sel key fld k) Item.f3 m) = onceL (pick (sel key fld k) Item.f3 l) := fun k hk3 => by
    refine onceL_congr fun x => ?_
    rw [(pick_perm hp _ _).mem_iff, pick_app]
    have e : pick (sel key fld k) Item.f3 [madeE node seq (incE (incQ key fld n) node 0 l)] = [] := by
      rw [pick_neg, pick_nil]
      simp [sel, madeE, incE]
      grind
    rw [e, List.append_nil]
    unfold pick keepQ
    simp only [List.mem_map, List.mem_filter]
    constructor
    · rintro ⟨y, ⟨⟨hy, _⟩, h2⟩, h3⟩
      exact ⟨y, ⟨hy, h2⟩, h3⟩
    · rintro ⟨y, ⟨hy, h2⟩, h3⟩
      exact ⟨y, ⟨⟨hy, by simp [hk k y hk3 h2]⟩, h2⟩, h3⟩
  refine ⟨b2, same 1 (by omega), same 2 (by omega), ?_⟩
  have hsum : (pick (sel key fld 3) Item.f4 m).sum = (pick (sel key fld 3) Item.f4 l).sum + n := by
    rw [sum_perm (pick_perm hp _ _), pick_app, List.sum_append, sum_split _ _ _ ht l]
    have e : pick (sel key fld 3) Item.f4 [madeE node seq (incE (incQ key fld n) node 0 l)] = [(incE (incQ key fld n) node 0 l).f5] := by
      rw [pick_pos, pick_nil]
      · rfl
      · simp [sel, inField, madeE, incE]
    rw [e]
    have e2 : (incE (incQ key fld n) node 0 l).f5 = n + (pick (takes (incQ key fld n) node) Item.f4 l).sum := by
      show (tot _).1 = _
      rw [t1, List.sum_cons]
    rw [e2]
    simp only [List.sum_cons, List.sum_nil]
    unfold keepQ
    omega
  have c1 : (tot (pick (sel key fld 3) Item.f4 m).sum).2 = 0 := by
    have : (!decide ((tot (pick (sel key fld 3) Item.f4 m).sum).2 = 0)) = false := b2
    simpa using this
  obtain ⟨d1, d2⟩ := tot_ok c1
  by_cases c2 : (tot (pick (sel key fld 3) Item.f4 l).sum).2 = 0
  · obtain ⟨e1, e2⟩ := tot_ok c2
    right
    have f1 : (fieldV m key fld).f2 = (pick (sel key fld 3) Item.f4 m).sum := d1
    have f2 : (fieldV l key fld).f2 = (pick (sel key fld 3) Item.f4 l).sum := e1
    rw [f1, f2, hsum]
    exact ⟨rfl, hsum ▸ d2⟩
  · left
    show (!decide _) = true
    simp [c2]
end Go.E2.S
