/- VQb: VQ3, VQ4, VQ5, VQ6. -/
import Derived.Test.YtiliffhopdiepaaGreatVQa
import Derived.Test.YtiliffhopdiepaaGreatVZa
import Derived.Test.YtiliffhopdiepaaGreatVT3
import Derived.Test.YtiliffhopdiepaaGreatVPp
/-! The document's zones: Norm; msg: may, right; what is short. -/
namespace Go.E2.S
open Go Go.E2 Go.RowKit Go.Proofs
set_option linter.unusedVariables false
set_option linter.unusedSimpArgs false
set_option maxHeartbeats 4000000
set_option maxRecDepth 10000
def Sz (l : List ByteArray) : Prop := ∀ x ∈ l, x.size ≤ 9223372036854775807
def aloneQ (p q : ByteArray) : Bool := !(!decide (q = p) && hasP p q)
theorem minB_all (l : List ByteArray) (p : ByteArray) : minB l p = l.all (aloneQ p) := by
  unfold minB aloneQ
  rw [List.not_any_eq_all_not]
  congr 1
  funext q
  have e : (bl q != bl p) = !decide (q = p) := by
    by_cases c : q = p
    · simp [c]
    · have : bl q ≠ bl p := fun e => c (bl_inj e)
      simp [c, this]
  rw [e]
  rfl
theorem rzn_l2 (l : List ByteArray) (hl : l.length < 100000) (hs : Sz l) (i : Nat) (hi : i < l.length) (out : List ByteArray) :
    A.lp 152 2 (hd152_2 [pv (lS l), .at (.row 2000 0), iv i, bv true, iv 0] [(2000, 0, some (rS1 out))]) = some (.exit 2, ex152_2 [pv (lS l), .at (.row 2000 0), iv i, bv (minB l l[i])] [(2000, 0, some (rS1 out))]) := by
  have h := lpGo (f := 152) (id := 2) l.length (fun k => hd152_2 [pv (lS l), .at (.row 2000 0), iv i, bv ((l.take k).all (aloneQ l[i])), iv k] [(2000, 0, some (rS1 out))]) (some (.exit 2, ex152_2 [pv (lS l), .at (.row 2000 0), iv i, bv (l.all (aloneQ l[i]))] [(2000, 0, some (rS1 out))])) (fun k hk => by
      have w6 : IntKind.i64.wrap ((k : Int) + 1) = k + 1 := wr _ (by omega) (by omega)
      have q := begins l[i] l[k] (hs _ (List.getElem_mem hk))
      rw [List.take_succ_eq_append_getElem hk, List.all_append, List.all_cons, List.all_nil, Bool.and_true]
      unfold aloneQ
      generalize (l.take k).all (fun q => !(!decide (q = l[i]) && hasP l[i] q)) = b
      generalize hasP l[i] l[k] = c at *
      rw [lp_run hL Tryz.func152 rfl (by rfl) 2 rfl]
      by_cases e : l[k] = l[i]
      · have e' := eq_true e
        (simp [hk, hi, q, w6, e']; try (rw [if_pos ?q]; (case q => kernel_rfl); simp [hk, hi, q, w6, e']))
      · cases c <;> (simp [hk, hi, q, w6, e]; try (rw [if_pos ?q]; (case q => kernel_rfl); simp [hk, hi, q, w6, e]))) (by
      rw [lp_run hL Tryz.func152 rfl (by rfl) 2 rfl]
      simp [-List.all_eq_true])
  rw [minB_all]
  simp [-List.all_eq_true] at h ⊢
  exact h
theorem once_mins (l : List ByteArray) : onceL (l.filter (minB l)) = mins l :=
  onceL_eq (mins_up l) fun x => by rw [mins_mem, List.mem_filter]
theorem rzoneNorm (l : List ByteArray) (hl : l.length < 100000) (hs : Sz l) : A.fn 152 [pv (lS l)] [] = some (.tup [pv (lS (zoneN l).1), iv (zoneN l).2], []) := by
  obtain ⟨h1, h2⟩ := lpAllX l pfx (f := 152) (id := 0) (fun i => hd152_0 [pv (lS l), .at (.row 2000 0), iv i] [(2000, 0, some (rS1 ((l.take i).filter (minB l))))])
    (some (.exit 0, ex152_0 [nov, nov, .at (.row 2000 0)] [(2000, 0, some (rS1 (l.filter (minB l))))]))
    (fun i => some (.ret, ex152_0 [.at .nil, iv 2, .at (.row 2000 0)] [(2000, 0, some (rS1 ((l.take i).filter (minB l))))])) (fun i hi => by
      have w6 : IntKind.i64.wrap ((i : Int) + 1) = i + 1 := wr _ (by omega) (by omega)
      have q1 := rprefix l[i] (hs _ (List.getElem_mem hi))
      have q2 := rzn_l2 l hl hs i hi ((l.take i).filter (minB l))
      have hlen : ((l.take i).filter (minB l)).length ≤ i := Nat.le_trans (List.length_filter_le _ _) (by simp; omega)
      have hlim := lim_le (n := ((l.take i).filter (minB l)).length) (by omega)
      rw [List.take_succ_eq_append_getElem hi, List.filter_append]
      have e : [l[i]].filter (minB l) = if minB l l[i] = true then [l[i]] else [] := by
        cases c : minB l l[i] <;> simp [c]
      rw [e]
      clear e
      generalize (l.take i).filter (minB l) = out at *
      generalize minB l l[i] = b at *
      simp [rS1] at q2
      rw [lp_run hL Tryz.func152 rfl (by rfl) 0 rfl]
      cases c : pfx l[i] with
      | true =>
        rw [c] at q1
        cases b <;> simp [hi, q1, q2, w6, hlim, rS1]
      | false =>
        rw [c] at q1
        simp [hi, q1, rS1]) (by
      rw [lp_run hL Tryz.func152 rfl (by rfl) 0 rfl]
      simp [rS1])
  rw [zoneN_eq]
  have q := ronce (l.filter (minB l)) (by have := List.length_filter_le (minB l) l; omega)
  rw [once_mins] at q
  have hm : (mins l).length ≤ l.length := by rw [← once_mins]; exact Nat.le_trans (onceL_len _) (List.length_filter_le _ _)
  generalize mins l = m at *
  cases c : l.all pfx with
  | true =>
    replace h1 := h1 c
    simp [rS1] at h1
    simp only [if_true]
    rw [fn_run hL Tryz.func152 rfl L152 (by rfl) rfl rfl rfl (by decide)]
    by_cases c2 : 8 < m.length
    · have c3 : (8 : Int) < m.length := by omega
      simp [Tryz.f152, h1, q, c2, c3]
    · have c3 : ¬ (8 : Int) < m.length := by omega
      simp [Tryz.f152, h1, q, c2, c3]
  | false =>
    obtain ⟨k, hk, h2⟩ := h2 c
    simp [rS1] at h2
    rw [fn_run hL Tryz.func152 rfl L152 (by rfl) rfl rfl rfl (by decide)]
    simp [Tryz.f152, h2]
theorem zoneN_len8 (l : List ByteArray) : (zoneN l).1.length ≤ 8 := by
  rw [zoneN_eq]
  split
  · split
    · simp
    · simp only; omega
  · simp
theorem rmsgRight (z : List ByteArray) (hl : z.length < 100000) (hs : Sz z) : A.fn 72 [pv (lS z)] [] = some (.one (bv (rightZ z)), []) := by
  have q1 := rzoneNorm z hl hs
  have hm := zoneN_len8 z
  have q2 := same08 (zoneN z).1 z (by omega)
  unfold rightZ
  generalize zoneN z = r at *
  obtain ⟨o, e⟩ := r
  simp only at q1 q2 hm ⊢
  rw [fn_run hL Tryz.func72 rfl L72 (by rfl) rfl rfl rfl (by decide)]
  by_cases c : e = 0
  · by_cases c2 : o = z
    · have c2' := eq_true c2
      rw [decide_eq_true c2] at q2
      simp [Tryz.f72, q1, q2, c, c2']
    · rw [decide_eq_false c2] at q2
      simp [Tryz.f72, q1, q2, c, c2]
  · simp [Tryz.f72, q1, q2, c]
theorem rmsgMay (v : List Int) (hv : v.length < 1000000000) : A.fn 71 [pv (lZ v)] [] = some (.one (bv (heardV v)), []) := by
  have h := lpAll v (fun n => !big n) (f := 71) (id := 0) (fun i => hd71_0 [pv (lZ v), iv i] []) (some (.exit 0, ex71_0 [pv (lZ v), nov] [])) (some (.ret, ex71_0 [pv (lZ v), bv false] [])) (fun i hi => by
      have w6 : IntKind.i64.wrap ((i : Int) + 1) = i + 1 := wr _ (by omega) (by omega)
      unfold big
      rw [lp_run hL Tryz.func71 rfl (by rfl) 0 rfl]
      by_cases c : 1073741824 < v[i]
      · simp [hi, c]
      · simp [hi, c, w6, -Int.not_lt]) (by
      rw [lp_run hL Tryz.func71 rfl (by rfl) 0 rfl]
      simp)
  have e : (v.all fun n => !big n) = !v.any big := by rw [List.not_any_eq_all_not]
  rw [e] at h
  have q1 := rvecTrim v (by omega)
  have ht := trimV_len v
  have q2 := requalZ v (trimV v) (by omega)
  have e2 : decide (v = trimV v) = decide (trimV v = v) := by rw [Bool.eq_iff_iff]; simp [eq_comm]
  rw [e2] at q2
  unfold heardV
  generalize trimV v = t at *
  generalize v.any big = b at *
  cases b with
  | true =>
    simp at h
    rw [fn_run hL Tryz.func71 rfl L71 (by rfl) rfl rfl rfl (by decide)]
    simp [Tryz.f71, h]
  | false =>
    simp at h
    rw [fn_run hL Tryz.func71 rfl L71 (by rfl) rfl rfl rfl (by decide)]
    by_cases c : v.length ≤ 8
    · have c' : (v.length : Int) ≤ 8 := by omega
      by_cases c2 : t = v
      · rw [decide_eq_true c2] at q2 ⊢
        simp [Tryz.f71, h, q1, q2, c, c']
      · rw [decide_eq_false c2] at q2 ⊢
        simp [Tryz.f71, h, q1, q2, c, c']
    · have c' : ¬ (v.length : Int) ≤ 8 := by omega
      simp [Tryz.f71, h, q1, q2, c, c', -Int.not_le, -Nat.not_le]
/-! ### Short -/
def shortE (e : Eff) : Bool := decide (e.f1.size ≤ 300) && (decide (e.f2.size ≤ 300) && (decide (e.f4.size ≤ 300) && decide (e.f6.length ≤ 70)))
def shortEs (l : List Eff) : Bool := decide (l.length ≤ 20) && l.all shortE
def shortT (t : Txn) : Bool := decide (t.f2.length ≤ 60) && shortEs t.f3
def shortTs (l : List Txn) : Bool := decide (l.length ≤ 24) && l.all shortT
def shortM (m : Msg) : Bool := decide (m.f3.length ≤ 60) && (decide (m.f4.length ≤ 60) && (shortS m.f5 && (shortS m.f6 && (shortL m.f7 && shortTs m.f8))))
theorem shortEffs (l : List Eff) : A.fn 134 [pv (lE l)] [] = some (.one (bv (shortEs l)), []) := by
  unfold shortEs
  by_cases hl : l.length ≤ 20
  · have h := lpAll l shortE (f := 134) (id := 0) (fun i => hd134_0 [pv (lE l), iv i] []) (some (.exit 0, ex134_0 [nov] [])) (some (.ret, ex134_0 [bv false] [])) (fun i hi => by
      have w6 : IntKind.i64.wrap ((i : Int) + 1) = i + 1 := wr _ (by omega) (by omega)
      unfold shortE
      rw [lp_run hL Tryz.func134 rfl (by rfl) 0 rfl]
      by_cases c1 : l[i].f1.size ≤ 300
      · have c1' : ¬ (300 : Int) < l[i].f1.size := by omega
        by_cases c2 : l[i].f2.size ≤ 300
        · have c2' : ¬ (300 : Int) < l[i].f2.size := by omega
          by_cases c3 : l[i].f4.size ≤ 300
          · have c3' : ¬ (300 : Int) < l[i].f4.size := by omega
            by_cases c4 : l[i].f6.length ≤ 70
            · have c4' : ¬ (70 : Int) < l[i].f6.length := by omega
              simp [hi, c1, c1', c2, c2', c3, c3', c4, c4', w6, -Int.not_lt, -Nat.not_le]
            · have c4' : (70 : Int) < l[i].f6.length := by omega
              simp [hi, c1, c1', c2, c2', c3, c3', c4, c4', w6, -Int.not_lt, -Nat.not_le]
          · have c3' : (300 : Int) < l[i].f4.size := by omega
            simp [hi, c1, c1', c2, c2', c3, c3', w6, -Int.not_lt, -Nat.not_le]
        · have c2' : (300 : Int) < l[i].f2.size := by omega
          simp [hi, c1, c1', c2, c2', w6, -Int.not_lt, -Nat.not_le]
      · have c1' : (300 : Int) < l[i].f1.size := by omega
        simp [hi, c1, c1', w6, -Int.not_lt, -Nat.not_le]) (by
      rw [lp_run hL Tryz.func134 rfl (by rfl) 0 rfl]
      simp)
    have hl' : ¬ (20 : Int) < l.length := by omega
    generalize l.all shortE = b at *
    cases b <;> (simp at h; rw [fn_run hL Tryz.func134 rfl L134 (by rfl) rfl rfl rfl (by decide)]; simp [Tryz.f134, h, hl, hl', -Int.not_lt])
  · have hl' : (20 : Int) < l.length := by omega
    rw [fn_run hL Tryz.func134 rfl L134 (by rfl) rfl rfl rfl (by decide)]
    simp [Tryz.f134, hl, hl', -Nat.not_le]
theorem shortTxns (l : List Txn) : A.fn 54 [pv (lT l)] [] = some (.one (bv (shortTs l)), []) := by
  unfold shortTs
  by_cases hl : l.length ≤ 24
  · have h := lpAll l shortT (f := 54) (id := 0) (fun i => hd54_0 [pv (lT l), iv i] []) (some (.exit 0, ex54_0 [nov] [])) (some (.ret, ex54_0 [bv false] [])) (fun i hi => by
      have w6 : IntKind.i64.wrap ((i : Int) + 1) = i + 1 := wr _ (by omega) (by omega)
      have q := shortEffs l[i].f3
      unfold shortT
      generalize shortEs l[i].f3 = b at *
      rw [lp_run hL Tryz.func54 rfl (by rfl) 0 rfl]
      by_cases c1 : l[i].f2.length ≤ 60
      · have c1' : ¬ (60 : Int) < l[i].f2.length := by omega
        cases b <;> simp [hi, c1, c1', q, w6, -Int.not_lt, -Nat.not_le]
      · have c1' : (60 : Int) < l[i].f2.length := by omega
        simp [hi, c1, c1', w6, -Int.not_lt, -Nat.not_le]) (by
      rw [lp_run hL Tryz.func54 rfl (by rfl) 0 rfl]
      simp)
    have hl' : ¬ (24 : Int) < l.length := by omega
    generalize l.all shortT = b at *
    cases b <;> (simp at h; rw [fn_run hL Tryz.func54 rfl L54 (by rfl) rfl rfl rfl (by decide)]; simp [Tryz.f54, h, hl, hl', -Int.not_lt])
  · have hl' : (24 : Int) < l.length := by omega
    rw [fn_run hL Tryz.func54 rfl L54 (by rfl) rfl rfl rfl (by decide)]
    simp [Tryz.f54, hl, hl', -Nat.not_le]
theorem shortMsg (m : Msg) : A.fn 15 [ag (encM m)] [] = some (.one (bv (shortM m)), []) := by
  have q1 := short08 m.f5
  have q2 := short08 m.f6
  have q3 := short09 m.f7
  have q4 := shortTxns m.f8
  unfold shortM
  generalize shortS m.f5 = b1 at *
  generalize shortS m.f6 = b2 at *
  generalize shortL m.f7 = b3 at *
  generalize shortTs m.f8 = b4 at *
  rw [fn_run hL Tryz.func15 rfl L15 (by rfl) rfl rfl rfl (by decide)]
  simp [Tryz.f15, -seqK.eq_2, -finK.eq_3, -turnK.eq_2, -condK.eq_3, -ex_region, -ex_drawn, -drawK.eq_1, -drawK.eq_2, -ops_cons, -pure_cons, -up_cons, -upC.eq_1, -absPick, ex_regionL, ex_drawnL, drawK_p, drawK_u, ops_gT, pure_gT, up_gT, upR_eq, gT_n, gT_s, gU_s, gX_1, gX_0, gX_t, gW_tt, gW_ff, gW_tf, gW_ft, pick_val, pkD_t, pkD_f, seqK_x, seqK_r, turnK_x, turnK_r, seqK_br, blkK_br, turnK_br, finK_br, regK_br, upC_br, meet_n, meet_e, meet_st, meet_eff, meet_b, meet_i, meet_s, mgL_cons, mgL_nil, q1, q2, q3, q4]
  repeat' refine brB_is.2 ⟨fun _ => ?_, fun _ => ?_⟩
  all_goals (try refine res_b ?_)
  all_goals (try rw [Bool.eq_iff_iff])
  all_goals (try simp only [Bool.and_eq_true, Bool.or_eq_true, Bool.not_eq_true', Bool.and_eq_false_iff, Bool.or_eq_false_iff, Bool.not_eq_false', decide_eq_true_eq, decide_eq_false_iff_not] at *)
  all_goals grind
end Go.E2.S
/-! The document's effects: Formed, Right, Heard, Only, Same; transactions: Formed, Only, Same, SameAll. -/
namespace Go.E2.S
open Go Go.E2 Go.RowKit Go.Proofs
set_option linter.unusedVariables false
set_option linter.unusedSimpArgs false
set_option maxHeartbeats 4000000
set_option maxRecDepth 10000
theorem formed_a (d : Dot) : formedI ⟨⟨#[97]⟩, ⟨#[]⟩, 1, ⟨#[]⟩, 0, d⟩ = okDot d := by
  have k1 : keyB ⟨#[97]⟩ = true := by decide
  have k2 : pfx ⟨#[]⟩ = true := by decide
  have k3 : (⟨#[]⟩ : ByteArray).size = 0 := rfl
  unfold formedI kindB okDot
  simp [k1, k2, k3]
theorem rmayD (d : Dot) : A.fn 243 [ag (encD d)] [] = some (.one (bv (okDot d)), []) := by
  have q := rformed ⟨⟨#[97]⟩, ⟨#[]⟩, 1, ⟨#[]⟩, 0, d⟩ (show (⟨#[97]⟩ : ByteArray).size ≤ 9223372036854775807 by decide) (show (⟨#[]⟩ : ByteArray).size ≤ 9223372036854775807 by decide)
  rw [formed_a] at q
  simp [ag, encI] at q
  rw [fn_run hL Tryz.func243 rfl L243 (by rfl) rfl rfl rfl (by decide)]
  simp [Tryz.f243, q]
theorem rahead (a b : Dot) : A.fn 244 [ag (encD a), ag (encD b)] [] = some (.one (bv (decide (cmpD a b < 0))), []) := by
  unfold cmpD orZ orZ orZ orZ cmpZ
  rw [fn_run hL Tryz.func244 rfl L244 (by rfl) rfl rfl rfl (by decide)]
  simp [Tryz.f244, -seqK.eq_2, -finK.eq_3, -turnK.eq_2, -condK.eq_3, -ex_region, -ex_drawn, -drawK.eq_1, -drawK.eq_2, -ops_cons, -pure_cons, -up_cons, -upC.eq_1, -absPick, ex_regionL, ex_drawnL, drawK_p, drawK_u, ops_gT, pure_gT, up_gT, upR_eq, gT_n, gT_s, gU_s, gX_1, gX_0, gX_t, gW_tt, gW_ff, gW_tf, gW_ft, pick_val, pkD_t, pkD_f, seqK_x, seqK_r, turnK_x, turnK_r, seqK_br, blkK_br, turnK_br, finK_br, regK_br, upC_br, meet_n, meet_e, meet_st, meet_eff, meet_b, meet_i, meet_s, mgL_cons, mgL_nil]
  repeat' refine brB_is.2 ⟨fun _ => ?_, fun _ => ?_⟩
  all_goals (try refine res_b ?_)
  all_goals (try rw [Bool.eq_iff_iff])
  all_goals simp only [decide_eq_true_eq]
  all_goals grind
theorem rmade (node seq : Int) (e : Eff) : A.fn 245 [iv node, iv seq, ag (encE e)] [] = some (.one (ag (encI (madeE node seq e))), []) := by
  obtain ⟨f0, f1, f2, f3, f4, f5, f6⟩ := e
  rw [fn_run hL Tryz.func245 rfl L245 (by rfl) rfl rfl rfl (by decide)]
  simp [Tryz.f245, madeE]
def SzE (e : Eff) : Prop := e.f1.size ≤ 9223372036854775807 ∧ e.f2.size ≤ 9223372036854775807
abbrev oF (e : Eff) : List Upd := [(2000, 0, some (.blk ((encE e).map .pv)))]
theorem allN_range (P : Nat → Bool) (n : Nat) : allN P 0 n = (List.range n).all P := by
  rw [Bool.eq_iff_iff, allN_iff, List.all_eq_true]
  exact ⟨fun h x hx => h x (by omega) (by simpa using hx), fun h j _ hj => h j (by simpa using hj)⟩
theorem rform_loop (node seq : Int) (e : Eff) (hl : e.f6.length < 1000000) :
    A.lp 210 0 (hd210_0 [iv node, iv seq, .at (.ptr 2000 0 0), iv 0] (oF e)) =
      if (List.range e.f6.length).all (upD e.f6) = true then some (.exit 0, ex210_0 [iv node, iv seq, .at (.ptr 2000 0 0), nov] (oF e)) else some (.ret, ex210_0 [iv node, iv seq, .at (.ptr 2000 0 0), bv false] (oF e)) := by
  have h := lpAll (List.range e.f6.length) (upD e.f6) (f := 210) (id := 0) (fun i => hd210_0 [iv node, iv seq, .at (.ptr 2000 0 0), iv i] (oF e))
    (some (.exit 0, ex210_0 [iv node, iv seq, .at (.ptr 2000 0 0), nov] (oF e))) (some (.ret, ex210_0 [iv node, iv seq, .at (.ptr 2000 0 0), bv false] (oF e))) (fun i hi => by
      have hi : i < e.f6.length := by simpa using hi
      have w6 : IntKind.i64.wrap ((i : Int) + 1) = i + 1 := wr _ (by omega) (by omega)
      have q1 := rmayD e.f6[i]
      have e1 := dAt_eq e.f6 i hi
      rw [List.getElem_range]
      unfold upD
      rw [e1]
      simp [ag, encD] at q1
      rw [lp_run hL Tryz.func210 rfl (by rfl) 0 rfl]
      cases c1 : okDot e.f6[i] with
      | false =>
        rw [c1] at q1
        (simp [oF, encE, hi, q1, w6]; try (rw [if_pos ?q]; (case q => kernel_rfl); simp [oF, encE, hi, q1, w6]))
      | true =>
        rw [c1] at q1
        by_cases i0 : i = 0
        · subst i0
          simp at w6
          (simp [oF, encE, hi, q1, w6]; try (rw [if_pos ?q]; (case q => kernel_rfl); simp [oF, encE, hi, q1, w6]))
        · have i1 : 0 < i := by omega
          have h2 : i - 1 < e.f6.length := by omega
          have q2 := rahead e.f6[i - 1] e.f6[i]
          have w2 : IntKind.i64.wrap ((i : Int) - 1) = ((i - 1 : Nat) : Int) := by rw [wr _ (by omega) (by omega)]; omega
          have e2 := dAt_eq e.f6 (i - 1) h2
          rw [e2]
          simp [ag, encD] at q2
          by_cases c2 : cmpD e.f6[i - 1] e.f6[i] < 0
          · rw [decide_eq_true c2] at q2
            (simp [oF, encE, hi, h2, i0, i1, q1, q2, w2, w6, c2]; try (rw [if_pos ?q]; (case q => kernel_rfl); simp [oF, encE, hi, h2, i0, i1, q1, q2, w2, w6, c2]))
          · rw [decide_eq_false c2] at q2
            (simp [oF, encE, hi, h2, i0, i1, q1, q2, w2, w6, c2]; try (rw [if_pos ?q]; (case q => kernel_rfl); simp [oF, encE, hi, h2, i0, i1, q1, q2, w2, w6, c2]))) (by
      rw [List.length_range]
      rw [lp_run hL Tryz.func210 rfl (by rfl) 0 rfl]
      simp [oF, encE])
  simp [oF, encE] at h ⊢
  exact h
theorem reffFormed (node seq : Int) (e : Eff) (hs : SzE e) (hl : e.f6.length < 1000000) : A.fn 210 [iv node, iv seq, ag (encE e)] [] = some (.one (bv (formedE node seq e)), []) := by
  have h := rform_loop node seq e hl
  have q1 := rmade node seq e
  have q2 := rformed (madeE node seq e) hs.1 hs.2
  have q3 := rkey e.f1 hs.1
  have q4 := rprefix e.f2 hs.2
  have q5 := rmayD ⟨node, seq, e.f0⟩
  have e4 := size_zero' e.f4
  have e0 : (if e.f3 = 0 then formedI ⟨e.f1, e.f2, 1, e.f4, e.f5, ⟨node, seq, e.f0⟩⟩ && (decide (e.f4.size = 0) && decide (0 < e.f6.length)) else formedI (madeE node seq e)) =
      if e.f3 = 0 then (decide (0 < e.f6.length) && (decide (e.f4.size = 0) && (decide (e.f5 = 0) && (keyB e.f1 && (pfx e.f2 && okDot ⟨node, seq, e.f0⟩))))) else formedI (madeE node seq e) := by
    split
    · unfold formedI kindB okDot
      rw [Bool.eq_iff_iff]
      simp only [Bool.and_eq_true, Bool.or_eq_true, decide_eq_true_eq]
      constructor
      · rintro ⟨⟨h1, h2, h3, h4, h5⟩, h6, h7⟩
        exact ⟨h7, h6, by simpa using h4, h1, h2, h5⟩
      · rintro ⟨h7, h6, h4, h1, h2, h5⟩
        exact ⟨⟨h1, h2, by omega, by simpa using h4, h5⟩, h6, h7⟩
    · rfl
  unfold formedE
  rw [e0, allN_range]
  clear e0
  generalize (List.range e.f6.length).all (upD e.f6) = b at *
  generalize formedI (madeE node seq e) = b2 at *
  generalize keyB e.f1 = b3 at *
  generalize pfx e.f2 = b4 at *
  generalize okDot ⟨node, seq, e.f0⟩ = b5 at *
  obtain ⟨f0, f1, f2, f3, f4, f5, f6⟩ := e
  simp only at *
  simp [ag, encE, encI, madeE] at q1 q2
  simp [ag, encD] at q5
  simp [oF, encE] at h
  rw [fn_run hL Tryz.func210 rfl L210 (by rfl) rfl rfl rfl (by decide)]
  by_cases c1 : f6.length ≤ 64
  · have c1' : ¬ (64 : Int) < f6.length := by omega
    cases b with
    | false =>
      simp at h
      simp [Tryz.f210, c1, c1', h, -Int.not_lt, -Nat.not_le]
    | true =>
      simp at h
      by_cases c2 : f3 = 0
      · subst c2
        by_cases c3 : 0 < f6.length
        · by_cases c4 : f4.size = 0
          · have e4' : f4 = ⟨#[]⟩ := e4.2 c4
            by_cases c5 : f5 = 0
            · subst c5
              cases b3 with
              | false => simp [Tryz.f210, c1, c1', h, c3, c4, e4, q3, -Int.not_lt, -Nat.not_le]
              | true =>
                cases b4 with
                | false => simp [Tryz.f210, c1, c1', h, c3, c4, e4, q3, q4, -Int.not_lt, -Nat.not_le]
                | true => cases b5 <;> simp [Tryz.f210, c1, c1', h, c3, c4, e4, q3, q4, q5, -Int.not_lt, -Nat.not_le]
            · simp [Tryz.f210, c1, c1', h, c3, c4, c5, e4, -Int.not_lt, -Nat.not_le]
          · simp [Tryz.f210, c1, c1', h, c3, c4, e4, -Int.not_lt, -Nat.not_le]
        · have c3' : f6.length = 0 := by omega
          simp [Tryz.f210, c1, c1', h, c3, c3', -Int.not_lt, -Nat.not_le]
      · cases b2 <;> simp [Tryz.f210, c1, c1', h, c2, q1, q2, -Int.not_lt, -Nat.not_le]
  · have c1' : (64 : Int) < f6.length := by omega
    simp [Tryz.f210, c1, c1', -Int.not_lt, -Nat.not_le]
end Go.E2.S
/-! The document's effects: Right, Heard, Only, Same; transactions: Formed, Only, Same, SameAll. -/
namespace Go.E2.S
open Go Go.E2 Go.RowKit Go.Proofs
set_option linter.unusedVariables false
set_option linter.unusedSimpArgs false
set_option maxHeartbeats 4000000
set_option maxRecDepth 10000
def SzEs (l : List Eff) : Prop := ∀ e ∈ l, SzE e ∧ e.f6.length < 1000000
theorem not_all {α : Type} (l : List α) (p : α → Bool) : (l.all fun x => !p x) = !l.any p := by rw [List.not_any_eq_all_not]
theorem rright_l2 (node seq : Int) (l : List Eff) (hs : SzEs l) (i : Nat) (hi : i < l.length) :
    A.lp 157 2 (hd157_2 [iv node, iv seq, pv (lE l), iv i, iv 0] []) =
      if l[i].f6.any (ownD node seq l[i]) = true then some (.ret, ex157_2 [iv node, iv seq, pv (lE l), bv false, iv i] []) else some (.exit 2, ex157_2 [iv node, iv seq, pv (lE l), nov, iv i] []) := by
  have hm := (hs _ (List.getElem_mem hi)).2
  have h := lpAny l[i].f6 (ownD node seq l[i]) (f := 157) (id := 2) (fun k => hd157_2 [iv node, iv seq, pv (lE l), iv i, iv k] []) (some (.exit 2, ex157_2 [iv node, iv seq, pv (lE l), nov, iv i] []))
    (some (.ret, ex157_2 [iv node, iv seq, pv (lE l), bv false, iv i] [])) (fun k hk => by
      have w6 : IntKind.i64.wrap ((k : Int) + 1) = k + 1 := wr _ (by omega) (by omega)
      unfold ownD
      rw [lp_run hL Tryz.func157 rfl (by rfl) 2 rfl]
      by_cases c1 : l[i].f6[k].f0 = node
      · have c1' := eq_true c1
        by_cases c2 : l[i].f6[k].f1 = seq
        · have c2' := eq_true c2
          by_cases c3 : l[i].f0 ≤ l[i].f6[k].f2
          · (simp [hi, hk, w6, c1', c2', c3]; try (rw [if_pos ?q]; (case q => kernel_rfl); simp [hi, hk, w6, c1', c2', c3]))
          · (simp [hi, hk, w6, c1', c2', c3, -Int.not_le]; try (rw [if_pos ?q]; (case q => kernel_rfl); simp [hi, hk, w6, c1', c2', c3, -Int.not_le]))
        · (simp [hi, hk, w6, c1', c2]; try (rw [if_pos ?q]; (case q => kernel_rfl); simp [hi, hk, w6, c1', c2]))
      · (simp [hi, hk, w6, c1]; try (rw [if_pos ?q]; (case q => kernel_rfl); simp [hi, hk, w6, c1]))) (by
      rw [lp_run hL Tryz.func157 rfl (by rfl) 2 rfl]
      simp [hi])
  simp at h ⊢
  exact h
theorem reffRight (node seq : Int) (l : List Eff) (hs : SzEs l) (hl : l.length < 1000000) : A.fn 157 [iv node, iv seq, pv (lE l)] [] = some (.one (bv (rightE node seq l)), []) := by
  have h := lpAll (List.range l.length) (rightN node seq l) (f := 157) (id := 0) (fun i => hd157_0 [iv node, iv seq, pv (lE l), iv i] [])
    (some (.exit 0, ex157_0 [nov] [])) (some (.ret, ex157_0 [bv false] [])) (fun i hi => by
      have hi : i < l.length := by simpa using hi
      have w6 : IntKind.i64.wrap ((i : Int) + 1) = i + 1 := wr _ (by omega) (by omega)
      have hz := hs _ (List.getElem_mem hi)
      have q1 := reffFormed node seq l[i] hz.1 hz.2
      have q2 := rright_l2 node seq l hs i hi
      have e1 := eAt_eq l i hi
      rw [List.getElem_range]
      unfold rightN
      rw [e1]
      generalize l[i].f6.any (ownD node seq l[i]) = b at *
      simp [ag, encE] at q1
      rw [lp_run hL Tryz.func157 rfl (by rfl) 0 rfl]
      cases c1 : formedE node seq l[i] with
      | false =>
        rw [c1] at q1
        (simp [hi, q1, w6]; try (rw [if_pos ?q]; (case q => kernel_rfl); simp [hi, q1, w6]))
      | true =>
        rw [c1] at q1
        by_cases i0 : i = 0
        · subst i0
          simp at w6
          cases b with
          | false =>
            simp at q2
            (simp [hi, q1, q2, w6]; try (rw [if_pos ?q]; (case q => kernel_rfl); simp [hi, q1, q2, w6]))
          | true =>
            simp at q2
            (simp [hi, q1, q2, w6]; try (rw [if_pos ?q]; (case q => kernel_rfl); simp [hi, q1, q2, w6]))
        · have i1 : 0 < i := by omega
          have h2 : i - 1 < l.length := by omega
          have w2 : IntKind.i64.wrap ((i : Int) - 1) = ((i - 1 : Nat) : Int) := by rw [wr _ (by omega) (by omega)]; omega
          have e2 := eAt_eq l (i - 1) h2
          rw [e2]
          by_cases c2 : l[i].f0 ≤ l[i - 1].f0
          · have c2' : ¬ l[i - 1].f0 < l[i].f0 := by omega
            (simp [hi, h2, i0, i1, q1, w2, w6, c2, c2', -Int.not_lt]; try (rw [if_pos ?q]; (case q => kernel_rfl); simp [hi, h2, i0, i1, q1, w2, w6, c2, c2', -Int.not_lt]))
          · have c2' : l[i - 1].f0 < l[i].f0 := by omega
            cases b with
            | false =>
              simp at q2
              (simp [hi, h2, i0, i1, q1, q2, w2, w6, c2, c2', -Int.not_le]; try (rw [if_pos ?q]; (case q => kernel_rfl); simp [hi, h2, i0, i1, q1, q2, w2, w6, c2, c2', -Int.not_le]))
            | true =>
              simp at q2
              (simp [hi, h2, i0, i1, q1, q2, w2, w6, c2, c2', -Int.not_le]; try (rw [if_pos ?q]; (case q => kernel_rfl); simp [hi, h2, i0, i1, q1, q2, w2, w6, c2, c2', -Int.not_le]))) (by
      rw [List.length_range]
      rw [lp_run hL Tryz.func157 rfl (by rfl) 0 rfl]
      simp)
  rw [← allN_range] at h
  unfold rightE
  generalize allN (rightN node seq l) 0 l.length = b at *
  cases b <;> (simp at h; rw [fn_run hL Tryz.func157 rfl L157 (by rfl) rfl rfl rfl (by decide)]; simp [Tryz.f157, h])
theorem rheard_l2 (l : List Eff) (node seq : Int) (v : List Int) (hv : v.length < 100000000) (hs : SzEs l) (i : Nat) (hi : i < l.length) :
    A.lp 158 2 (hd158_2 [pv (lE l), iv node, iv seq, pv (lZ v), iv i, iv 0] []) =
      if l[i].f6.all (okH node seq v) = true then some (.exit 2, ex158_2 [pv (lE l), iv node, iv seq, pv (lZ v), nov, iv i] []) else some (.ret, ex158_2 [pv (lE l), iv node, iv seq, pv (lZ v), bv false, iv i] []) := by
  have hm := (hs _ (List.getElem_mem hi)).2
  have h := lpAll l[i].f6 (okH node seq v) (f := 158) (id := 2) (fun k => hd158_2 [pv (lE l), iv node, iv seq, pv (lZ v), iv i, iv k] []) (some (.exit 2, ex158_2 [pv (lE l), iv node, iv seq, pv (lZ v), nov, iv i] []))
    (some (.ret, ex158_2 [pv (lE l), iv node, iv seq, pv (lZ v), bv false, iv i] [])) (fun k hk => by
      have w6 : IntKind.i64.wrap ((k : Int) + 1) = k + 1 := wr _ (by omega) (by omega)
      have q := rvecAt v l[i].f6[k].f0 (by omega)
      unfold okH hasV
      generalize atV v l[i].f6[k].f0 = a at *
      rw [lp_run hL Tryz.func158 rfl (by rfl) 2 rfl]
      by_cases c1 : l[i].f6[k].f0 = node
      · have c1' := eq_true c1
        by_cases c2 : l[i].f6[k].f1 = seq
        · have c2' := eq_true c2
          (simp [hi, hk, w6, q, c1', c2']; try (rw [if_pos ?q]; (case q => kernel_rfl); simp [hi, hk, w6, q, c1', c2']))
        · by_cases c3 : 1 ≤ l[i].f6[k].f1
          · have c3' : ¬ l[i].f6[k].f1 < 1 := by omega
            by_cases c4 : l[i].f6[k].f1 ≤ a
            · have c4' : ¬ a < l[i].f6[k].f1 := by omega
              (simp [hi, hk, w6, q, c1', c2, c3, c3', c4, c4', -Int.not_lt, -Int.not_le]; try (rw [if_pos ?q]; (case q => kernel_rfl); simp [hi, hk, w6, q, c1', c2, c3, c3', c4, c4', -Int.not_lt, -Int.not_le]))
            · have c4' : a < l[i].f6[k].f1 := by omega
              (simp [hi, hk, w6, q, c1', c2, c3, c3', c4, c4', -Int.not_lt, -Int.not_le]; try (rw [if_pos ?q]; (case q => kernel_rfl); simp [hi, hk, w6, q, c1', c2, c3, c3', c4, c4', -Int.not_lt, -Int.not_le]))
          · have c3' : l[i].f6[k].f1 < 1 := by omega
            (simp [hi, hk, w6, q, c1', c2, c3, c3', -Int.not_lt, -Int.not_le]; try (rw [if_pos ?q]; (case q => kernel_rfl); simp [hi, hk, w6, q, c1', c2, c3, c3', -Int.not_lt, -Int.not_le]))
      · by_cases c3 : 1 ≤ l[i].f6[k].f1
        · have c3' : ¬ l[i].f6[k].f1 < 1 := by omega
          by_cases c4 : l[i].f6[k].f1 ≤ a
          · have c4' : ¬ a < l[i].f6[k].f1 := by omega
            (simp [hi, hk, w6, q, c1, c3, c3', c4, c4', -Int.not_lt, -Int.not_le]; try (rw [if_pos ?q]; (case q => kernel_rfl); simp [hi, hk, w6, q, c1, c3, c3', c4, c4', -Int.not_lt, -Int.not_le]))
          · have c4' : a < l[i].f6[k].f1 := by omega
            (simp [hi, hk, w6, q, c1, c3, c3', c4, c4', -Int.not_lt, -Int.not_le]; try (rw [if_pos ?q]; (case q => kernel_rfl); simp [hi, hk, w6, q, c1, c3, c3', c4, c4', -Int.not_lt, -Int.not_le]))
        · have c3' : l[i].f6[k].f1 < 1 := by omega
          (simp [hi, hk, w6, q, c1, c3, c3', -Int.not_lt, -Int.not_le]; try (rw [if_pos ?q]; (case q => kernel_rfl); simp [hi, hk, w6, q, c1, c3, c3', -Int.not_lt, -Int.not_le]))) (by
      rw [lp_run hL Tryz.func158 rfl (by rfl) 2 rfl]
      simp [hi])
  simp [-List.all_eq_true] at h ⊢
  exact h
theorem reffHeard (l : List Eff) (node seq : Int) (v : List Int) (hv : v.length < 100000000) (hs : SzEs l) (hl : l.length < 1000000) : A.fn 158 [pv (lE l), iv node, iv seq, pv (lZ v)] [] = some (.one (bv (heardE l node seq v)), []) := by
  have h := lpAll l (fun e => e.f6.all (okH node seq v)) (f := 158) (id := 0) (fun i => hd158_0 [pv (lE l), iv node, iv seq, pv (lZ v), iv i] [])
    (some (.exit 0, ex158_0 [nov] [])) (some (.ret, ex158_0 [bv false] [])) (fun i hi => by
      have w6 : IntKind.i64.wrap ((i : Int) + 1) = i + 1 := wr _ (by omega) (by omega)
      have q := rheard_l2 l node seq v hv hs i hi
      generalize l[i].f6.all (okH node seq v) = b at *
      rw [lp_run hL Tryz.func158 rfl (by rfl) 0 rfl]
      cases b <;> (simp at q; simp [hi, q, w6])) (by
      rw [lp_run hL Tryz.func158 rfl (by rfl) 0 rfl]
      simp)
  unfold heardE
  generalize l.all (fun e => e.f6.all (okH node seq v)) = b at *
  cases b <;> (simp at h; rw [fn_run hL Tryz.func158 rfl L158 (by rfl) rfl rfl rfl (by decide)]; simp [Tryz.f158, h])
def onlyE (l : List Eff) (z : List ByteArray) : List Eff := l.filter fun e => coversL z e.f1
theorem reffOnly (l : List Eff) (z : List ByteArray) (hl : l.length < 1000000) (hz : z.length < 1000000000) (hs : Sz z) : A.fn 160 [pv (lE l), pv (lS z)] [] = some (.one (pv (lE (onlyE l z))), []) := by
  have h := lpGo (f := 160) (id := 0) l.length (fun i => hd160_0 [pv (lE l), pv (lS z), .at (.row 2000 0), iv i] [(2000, 0, some (rE ((l.take i).filter fun e => coversL z e.f1)))])
    (some (.exit 0, ex160_0 [.at (.row 2000 0)] [(2000, 0, some (rE (l.filter fun e => coversL z e.f1)))])) (fun i hi => by
      have w6 : IntKind.i64.wrap ((i : Int) + 1) = i + 1 := wr _ (by omega) (by omega)
      have q := rcovers z l[i].f1 hz hs
      have hlen : ((l.take i).filter fun e => coversL z e.f1).length ≤ i := Nat.le_trans (List.length_filter_le _ _) (by simp; omega)
      have hlim := lim_le (n := ((l.take i).filter fun e => coversL z e.f1).length) (by omega)
      rw [List.take_succ_eq_append_getElem hi, List.filter_append]
      have e : [l[i]].filter (fun e => coversL z e.f1) = if coversL z l[i].f1 = true then [l[i]] else [] := by
        cases c : coversL z l[i].f1 <;> simp [c]
      rw [e]
      clear e
      generalize (l.take i).filter (fun e => coversL z e.f1) = out at *
      generalize coversL z l[i].f1 = b at *
      rw [lp_run hL Tryz.func160 rfl (by rfl) 0 rfl]
      cases b <;> simp [hi, q, w6, hlim, rE]) (by
      rw [lp_run hL Tryz.func160 rfl (by rfl) 0 rfl]
      simp)
  unfold onlyE
  simp [rE] at h
  rw [fn_run hL Tryz.func160 rfl L160 (by rfl) rfl rfl rfl (by decide)]
  simp [Tryz.f160, h]
theorem reffSame (a b : List Eff) (ha : a.length < 1000000000) (hs : ∀ e ∈ a, e.f6.length < 1000000000) : A.fn 159 [pv (lE a), pv (lE b)] [] = some (.one (bv (decide (a = b))), []) := by
  by_cases hl : a.length = b.length
  · have h := lpAll (a.zip b) (fun p => decide (p.1 = p.2)) (f := 159) (id := 0) (fun i => hd159_0 [pv (lE a), pv (lE b), iv i] [])
      (some (.exit 0, ex159_0 [nov] [])) (some (.ret, ex159_0 [bv false] [])) (fun i hi => by
        have h1 : i < a.length := by rw [zip_len hl] at hi; exact hi
        have h2 : i < b.length := by omega
        have w6 : IntKind.i64.wrap ((i : Int) + 1) = i + 1 := wr _ (by omega) (by omega)
        have q := sameD a[i].f6 b[i].f6 (hs _ (List.getElem_mem h1))
        have e : decide (a[i] = b[i]) = (decide (a[i].f0 = b[i].f0) && (decide (a[i].f1 = b[i].f1) && (decide (a[i].f2 = b[i].f2) && (decide (a[i].f3 = b[i].f3) && (decide (a[i].f4 = b[i].f4) && (decide (a[i].f5 = b[i].f5) && decide (a[i].f6 = b[i].f6))))))) := by
          generalize a[i] = x
          generalize b[i] = y
          obtain ⟨x0, x1, x2, x3, x4, x5, x6⟩ := x
          obtain ⟨y0, y1, y2, y3, y4, y5, y6⟩ := y
          rw [Bool.eq_iff_iff]
          simp
        rw [List.getElem_zip]
        simp only
        rw [e]
        clear e
        rw [lp_run hL Tryz.func159 rfl (by rfl) 0 rfl]
        by_cases c0 : a[i].f0 = b[i].f0
        · have c0' := eq_true c0
          by_cases c1 : a[i].f1 = b[i].f1
          · have c1' := eq_true c1
            by_cases c2 : a[i].f2 = b[i].f2
            · have c2' := eq_true c2
              by_cases c3 : a[i].f3 = b[i].f3
              · have c3' := eq_true c3
                by_cases c4 : a[i].f4 = b[i].f4
                · have c4' := eq_true c4
                  by_cases c5 : a[i].f5 = b[i].f5
                  · have c5' := eq_true c5
                    by_cases c6 : a[i].f6 = b[i].f6
                    · have c6' := eq_true c6
                      rw [decide_eq_true c6] at q
                      (simp [h1, h2, w6, c0', c1', c2', c3', c4', c5', c6', q]; try (rw [if_pos ?q]; (case q => kernel_rfl); simp [h1, h2, w6, c0', c1', c2', c3', c4', c5', c6', q]))
                    · rw [decide_eq_false c6] at q
                      (simp [h1, h2, w6, c0', c1', c2', c3', c4', c5', c6, q]; try (rw [if_pos ?q]; (case q => kernel_rfl); simp [h1, h2, w6, c0', c1', c2', c3', c4', c5', c6, q]))
                  · (simp [h1, h2, w6, c0', c1', c2', c3', c4', c5]; try (rw [if_pos ?q]; (case q => kernel_rfl); simp [h1, h2, w6, c0', c1', c2', c3', c4', c5]))
                · (simp [h1, h2, w6, c0', c1', c2', c3', c4]; try (rw [if_pos ?q]; (case q => kernel_rfl); simp [h1, h2, w6, c0', c1', c2', c3', c4]))
              · (simp [h1, h2, w6, c0', c1', c2', c3]; try (rw [if_pos ?q]; (case q => kernel_rfl); simp [h1, h2, w6, c0', c1', c2', c3]))
            · (simp [h1, h2, w6, c0', c1', c2]; try (rw [if_pos ?q]; (case q => kernel_rfl); simp [h1, h2, w6, c0', c1', c2]))
          · (simp [h1, h2, w6, c0', c1]; try (rw [if_pos ?q]; (case q => kernel_rfl); simp [h1, h2, w6, c0', c1]))
        · (simp [h1, h2, w6, c0]; try (rw [if_pos ?q]; (case q => kernel_rfl); simp [h1, h2, w6, c0]))) (by
        rw [zip_len hl]
        rw [lp_run hL Tryz.func159 rfl (by rfl) 0 rfl]
        simp [hl])
    rw [zip_all a b hl] at h
    rw [fn_run hL Tryz.func159 rfl L159 (by rfl) rfl rfl rfl (by decide)]
    by_cases c : a = b
    · subst c
      simp at h
      simp [Tryz.f159, h]
    · simp [c] at h
      simp [Tryz.f159, h, c, hl]
  · have hl' : ¬ (a.length : Int) = b.length := by omega
    have h : ¬ a = b := fun e => hl (by rw [e])
    rw [fn_run hL Tryz.func159 rfl L159 (by rfl) rfl rfl rfl (by decide)]
    simp [Tryz.f159, hl', h]
end Go.E2.S
/-! The document's transactions: Formed, Only, Same, SameAll. -/
namespace Go.E2.S
open Go Go.E2 Go.RowKit Go.Proofs
set_option linter.unusedVariables false
set_option linter.unusedSimpArgs false
set_option maxHeartbeats 4000000
set_option maxRecDepth 10000
abbrev oTx (t : Txn) : List Upd := [(2000, 0, some (.blk ((encT t).map .pv)))]
theorem atV_big {v : List Int} (h : v.any big = false) (n : Int) : atV v n ≤ 1073741824 := by
  unfold atV
  split
  · omega
  · rename_i c
    have hi : n.toNat < v.length := by omega
    rw [List.getD_eq_getElem?_getD, List.getElem?_eq_getElem hi]
    have := big_le h _ (List.getElem_mem hi)
    show pos0 v[n.toNat] ≤ _
    unfold pos0
    split <;> omega
theorem rtform_loop (t : Txn) (hl : t.f2.length < 100000000) :
    A.lp 77 0 (hd77_0 [.at (.ptr 2000 0 0), iv 0] (oTx t)) = if t.f2.any big = true then some (.ret, ex77_0 [.at (.ptr 2000 0 0), bv false] (oTx t)) else some (.exit 0, ex77_0 [.at (.ptr 2000 0 0), nov] (oTx t)) := by
  have h := lpAny t.f2 big (f := 77) (id := 0) (fun i => hd77_0 [.at (.ptr 2000 0 0), iv i] (oTx t)) (some (.exit 0, ex77_0 [.at (.ptr 2000 0 0), nov] (oTx t))) (some (.ret, ex77_0 [.at (.ptr 2000 0 0), bv false] (oTx t))) (fun i hi => by
      have w6 : IntKind.i64.wrap ((i : Int) + 1) = i + 1 := wr _ (by omega) (by omega)
      unfold big
      rw [lp_run hL Tryz.func77 rfl (by rfl) 0 rfl]
      by_cases c : 1073741824 < t.f2[i]
      · simp [oTx, encT, hi, c]
      · simp [oTx, encT, hi, c, w6, -Int.not_lt]) (by
      rw [lp_run hL Tryz.func77 rfl (by rfl) 0 rfl]
      simp [oTx, encT])
  simp [oTx, encT] at h ⊢
  exact h
theorem rtxnFormed (t : Txn) (hs : SzEs t.f3) (h2 : t.f2.length < 100000000) (h3 : t.f3.length < 1000000) : A.fn 77 [ag (encT t)] [] = some (.one (bv (formedT t)), []) := by
  have h := rtform_loop t h2
  have q1 := rvecTrim t.f2 (by omega)
  have ht := trimV_len t.f2
  have q2 := requalZ t.f2 (trimV t.f2) (by omega)
  have q3 := rvecAt t.f2 t.f0 (by omega)
  have q4 := reffRight t.f0 t.f1 t.f3 hs h3
  have q5 := reffHeard t.f3 t.f0 t.f1 t.f2 h2 hs h3
  have hb := fun h => atV_big (v := t.f2) h t.f0
  have e2 : decide (t.f2 = trimV t.f2) = decide (trimV t.f2 = t.f2) := by rw [Bool.eq_iff_iff]; simp [eq_comm]
  rw [e2] at q2
  have a0 := atV_nn t.f2 t.f0
  unfold formedT
  obtain ⟨f0, f1, f2, f3⟩ := t
  simp only at *
  clear e2
  generalize trimV f2 = tv at *
  generalize atV f2 f0 = av at *
  generalize rightE f0 f1 f3 = b5 at *
  generalize heardE f3 f0 f1 f2 = b6 at *
  generalize decide (tv = f2) = b1 at *
  cases b4 : f2.any big with
  | true =>
    rw [b4] at h
    simp [oTx, encT] at h
    rw [fn_run hL Tryz.func77 rfl L77 (by rfl) rfl rfl rfl (by decide)]
    simp [Tryz.f77, -seqK.eq_2, -finK.eq_3, -turnK.eq_2, -condK.eq_3, -ex_region, -ex_drawn, -drawK.eq_1, -drawK.eq_2, -ops_cons, -pure_cons, -up_cons, -upC.eq_1, -absPick, ex_regionL, ex_drawnL, drawK_p, drawK_u, ops_gT, pure_gT, up_gT, upR_eq, gT_n, gT_s, gU_s, gX_1, gX_0, gX_t, gW_tt, gW_ff, gW_tf, gW_ft, pick_val, pkD_t, pkD_f, seqK_x, seqK_r, turnK_x, turnK_r, seqK_br, blkK_br, turnK_br, finK_br, regK_br, upC_br, meet_n, meet_e, meet_st, meet_eff, meet_b, meet_i, meet_s, mgL_cons, mgL_nil, q1, q2, h]
    repeat (rw [upC_ok ?q]; case q => kernel_rfl)
    try simp [Tryz.f77, -seqK.eq_2, -finK.eq_3, -turnK.eq_2, -condK.eq_3, -ex_region, -ex_drawn, -drawK.eq_1, -drawK.eq_2, -ops_cons, -pure_cons, -up_cons, -upC.eq_1, -absPick, ex_regionL, ex_drawnL, drawK_p, drawK_u, ops_gT, pure_gT, up_gT, upR_eq, gT_n, gT_s, gU_s, gX_1, gX_0, gX_t, gW_tt, gW_ff, gW_tf, gW_ft, pick_val, pkD_t, pkD_f, seqK_x, seqK_r, turnK_x, turnK_r, seqK_br, blkK_br, turnK_br, finK_br, regK_br, upC_br, meet_n, meet_e, meet_st, meet_eff, meet_b, meet_i, meet_s, mgL_cons, mgL_nil, q1, q2, h]
    all_goals clear q1 q2 q3 q4 q5 h hs hb
    repeat' refine brB_is.2 ⟨fun _ => ?_, fun _ => ?_⟩
    all_goals (try refine res_b ?_)
    all_goals (try rw [Bool.eq_iff_iff])
    all_goals (try simp only [Bool.and_eq_true, Bool.or_eq_true, Bool.not_eq_true', Bool.and_eq_false_iff, Bool.or_eq_false_iff, Bool.not_eq_false', decide_eq_true_eq, decide_eq_false_iff_not] at *)
    all_goals grind
  | false =>
    rw [b4] at h
    replace hb := hb b4
    have w : IntKind.i64.wrap (av + 1) = av + 1 := wr _ (by omega) (by omega)
    simp [oTx, encT] at h
    rw [fn_run hL Tryz.func77 rfl L77 (by rfl) rfl rfl rfl (by decide)]
    simp [Tryz.f77, -seqK.eq_2, -finK.eq_3, -turnK.eq_2, -condK.eq_3, -ex_region, -ex_drawn, -drawK.eq_1, -drawK.eq_2, -ops_cons, -pure_cons, -up_cons, -upC.eq_1, -absPick, ex_regionL, ex_drawnL, drawK_p, drawK_u, ops_gT, pure_gT, up_gT, upR_eq, gT_n, gT_s, gU_s, gX_1, gX_0, gX_t, gW_tt, gW_ff, gW_tf, gW_ft, pick_val, pkD_t, pkD_f, seqK_x, seqK_r, turnK_x, turnK_r, seqK_br, blkK_br, turnK_br, finK_br, regK_br, upC_br, meet_n, meet_e, meet_st, meet_eff, meet_b, meet_i, meet_s, mgL_cons, mgL_nil, q1, q2, q3, q4, q5, h, w]
    repeat (rw [upC_ok ?q]; case q => kernel_rfl)
    simp [Tryz.f77, -seqK.eq_2, -finK.eq_3, -turnK.eq_2, -condK.eq_3, -ex_region, -ex_drawn, -drawK.eq_1, -drawK.eq_2, -ops_cons, -pure_cons, -up_cons, -upC.eq_1, -absPick, ex_regionL, ex_drawnL, drawK_p, drawK_u, ops_gT, pure_gT, up_gT, upR_eq, gT_n, gT_s, gU_s, gX_1, gX_0, gX_t, gW_tt, gW_ff, gW_tf, gW_ft, pick_val, pkD_t, pkD_f, seqK_x, seqK_r, turnK_x, turnK_r, seqK_br, blkK_br, turnK_br, finK_br, regK_br, upC_br, meet_n, meet_e, meet_st, meet_eff, meet_b, meet_i, meet_s, mgL_cons, mgL_nil, q1, q2, q3, q4, q5, h, w]
    repeat (rw [upC_ok ?q]; case q => kernel_rfl)
    simp [Tryz.f77, -seqK.eq_2, -finK.eq_3, -turnK.eq_2, -condK.eq_3, -ex_region, -ex_drawn, -drawK.eq_1, -drawK.eq_2, -ops_cons, -pure_cons, -up_cons, -upC.eq_1, -absPick, ex_regionL, ex_drawnL, drawK_p, drawK_u, ops_gT, pure_gT, up_gT, upR_eq, gT_n, gT_s, gU_s, gX_1, gX_0, gX_t, gW_tt, gW_ff, gW_tf, gW_ft, pick_val, pkD_t, pkD_f, seqK_x, seqK_r, turnK_x, turnK_r, seqK_br, blkK_br, turnK_br, finK_br, regK_br, upC_br, meet_n, meet_e, meet_st, meet_eff, meet_b, meet_i, meet_s, mgL_cons, mgL_nil, q1, q2, q3, q4, q5, h, w]
    clear q1 q2 q3 q4 q5 h w hs b4
    repeat' refine brB_is.2 ⟨fun _ => ?_, fun _ => ?_⟩
    all_goals (try refine res_b ?_)
    all_goals (try rw [Bool.eq_iff_iff])
    all_goals (try simp only [Bool.and_eq_true, Bool.or_eq_true, Bool.not_eq_true', Bool.and_eq_false_iff, Bool.or_eq_false_iff, Bool.not_eq_false', decide_eq_true_eq, decide_eq_false_iff_not] at *)
    all_goals grind
def onlyT (t : Txn) (z : List ByteArray) : Txn := ⟨t.f0, t.f1, t.f2, onlyE t.f3 z⟩
theorem rtxnOnly (t : Txn) (z : List ByteArray) (hl : t.f3.length < 1000000) (hz : z.length < 1000000000) (hs : Sz z) : A.fn 80 [ag (encT t), pv (lS z)] [] = some (.one (ag (encT (onlyT t z))), []) := by
  have q := reffOnly t.f3 z hl hz hs
  unfold onlyT
  generalize onlyE t.f3 z = o at *
  obtain ⟨f0, f1, f2, f3⟩ := t
  simp only at *
  rw [fn_run hL Tryz.func80 rfl L80 (by rfl) rfl rfl rfl (by decide)]
  simp [Tryz.f80, q]
theorem txn_ext (a b : Txn) : decide (a = b) = (decide (a.f0 = b.f0) && (decide (a.f1 = b.f1) && (decide (a.f2 = b.f2) && decide (a.f3 = b.f3)))) := by
  obtain ⟨x0, x1, x2, x3⟩ := a
  obtain ⟨y0, y1, y2, y3⟩ := b
  rw [Bool.eq_iff_iff]
  simp
theorem rtxnSame (a b : Txn) (h2 : a.f2.length < 1000000000) (h3 : a.f3.length < 1000000000) (hs : ∀ e ∈ a.f3, e.f6.length < 1000000000) : A.fn 79 [ag (encT a), ag (encT b)] [] = some (.one (bv (decide (a = b))), []) := by
  have q1 := requalZ a.f2 b.f2 (by omega)
  have q2 := reffSame a.f3 b.f3 h3 hs
  rw [txn_ext]
  obtain ⟨x0, x1, x2, x3⟩ := a
  obtain ⟨y0, y1, y2, y3⟩ := b
  simp only at *
  generalize decide (x2 = y2) = b2 at *
  generalize decide (x3 = y3) = b3 at *
  rw [fn_run hL Tryz.func79 rfl L79 (by rfl) rfl rfl rfl (by decide)]
  simp [Tryz.f79, -seqK.eq_2, -finK.eq_3, -turnK.eq_2, -condK.eq_3, -ex_region, -ex_drawn, -drawK.eq_1, -drawK.eq_2, -ops_cons, -pure_cons, -up_cons, -upC.eq_1, -absPick, ex_regionL, ex_drawnL, drawK_p, drawK_u, ops_gT, pure_gT, up_gT, upR_eq, gT_n, gT_s, gU_s, gX_1, gX_0, gX_t, gW_tt, gW_ff, gW_tf, gW_ft, pick_val, pkD_t, pkD_f, seqK_x, seqK_r, turnK_x, turnK_r, seqK_br, blkK_br, turnK_br, finK_br, regK_br, upC_br, meet_n, meet_e, meet_st, meet_eff, meet_b, meet_i, meet_s, mgL_cons, mgL_nil, q1, q2]
  repeat (rw [upC_ok ?q]; case q => kernel_rfl)
  try simp [Tryz.f79, -seqK.eq_2, -finK.eq_3, -turnK.eq_2, -condK.eq_3, -ex_region, -ex_drawn, -drawK.eq_1, -drawK.eq_2, -ops_cons, -pure_cons, -up_cons, -upC.eq_1, -absPick, ex_regionL, ex_drawnL, drawK_p, drawK_u, ops_gT, pure_gT, up_gT, upR_eq, gT_n, gT_s, gU_s, gX_1, gX_0, gX_t, gW_tt, gW_ff, gW_tf, gW_ft, pick_val, pkD_t, pkD_f, seqK_x, seqK_r, turnK_x, turnK_r, seqK_br, blkK_br, turnK_br, finK_br, regK_br, upC_br, meet_n, meet_e, meet_st, meet_eff, meet_b, meet_i, meet_s, mgL_cons, mgL_nil, q1, q2]
  all_goals clear q1 q2
  repeat' refine brB_is.2 ⟨fun _ => ?_, fun _ => ?_⟩
  all_goals (try refine res_b ?_)
  all_goals (try rw [Bool.eq_iff_iff])
  all_goals (try simp only [Bool.and_eq_true, Bool.or_eq_true, Bool.not_eq_true', Bool.and_eq_false_iff, Bool.or_eq_false_iff, Bool.not_eq_false', decide_eq_true_eq, decide_eq_false_iff_not] at *)
  all_goals grind
def BdT (l : List Txn) : Prop := ∀ t ∈ l, t.f2.length < 1000000 ∧ t.f3.length < 1000000 ∧ ∀ e ∈ t.f3, e.f6.length < 1000000
theorem rtxnsSame (a b : List Txn) (ha : a.length < 1000000000) (hs : BdT a) : A.fn 95 [pv (lT a), pv (lT b)] [] = some (.one (bv (decide (a = b))), []) := by
  by_cases hl : a.length = b.length
  · have h := lpAll (a.zip b) (fun p => decide (p.1 = p.2)) (f := 95) (id := 0) (fun i => hd95_0 [pv (lT a), pv (lT b), iv i] [])
      (some (.exit 0, ex95_0 [nov] [])) (some (.ret, ex95_0 [bv false] [])) (fun i hi => by
        have h1 : i < a.length := by rw [zip_len hl] at hi; exact hi
        have h2 : i < b.length := by omega
        have w6 : IntKind.i64.wrap ((i : Int) + 1) = i + 1 := wr _ (by omega) (by omega)
        obtain ⟨k1, k2, k3⟩ := hs _ (List.getElem_mem h1)
        have q := rtxnSame a[i] b[i] (by omega) (by omega) fun e he => by have := k3 e he; omega
        rw [List.getElem_zip]
        simp only
        generalize decide (a[i] = b[i]) = c at *
        simp [ag, encT] at q
        rw [lp_run hL Tryz.func95 rfl (by rfl) 0 rfl]
        cases c <;> (simp [h1, h2, q, w6, encT]; try (rw [if_pos ?q]; (case q => kernel_rfl); simp [h1, h2, q, w6, encT]))) (by
        rw [zip_len hl]
        rw [lp_run hL Tryz.func95 rfl (by rfl) 0 rfl]
        simp [hl])
    rw [zip_all a b hl] at h
    rw [fn_run hL Tryz.func95 rfl L95 (by rfl) rfl rfl rfl (by decide)]
    by_cases c : a = b
    · subst c
      simp at h
      simp [Tryz.f95, h]
    · simp [c] at h
      simp [Tryz.f95, h, c, hl]
  · have hl' : ¬ (a.length : Int) = b.length := by omega
    have h : ¬ a = b := fun e => hl (by rw [e])
    rw [fn_run hL Tryz.func95 rfl L95 (by rfl) rfl rfl rfl (by decide)]
    simp [Tryz.f95, hl', h]
end Go.E2.S
