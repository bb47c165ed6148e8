/- VRc: VR10, VR11. -/
import Derived.Test.YtiliffhopdiepaaGreatVPp
import Derived.Test.YtiliffhopdiepaaGreatVTc
/-! msg.Read. -/
namespace Go.E2.S
open Go Go.E2 Go.RowKit Go.Proofs
set_option linter.unusedVariables false
set_option linter.unusedSimpArgs false
set_option maxHeartbeats 4000000
set_option maxRecDepth 10000
theorem mdItem_len (s : Md) : (mdItem s).2.1.length ≤ s.1.length := by
  unfold mdItem
  simp only
  refine Nat.le_trans (mdN_len _) ?_
  refine Nat.le_trans (mdN_len _) ?_
  refine Nat.le_trans (mdN_len _) ?_
  refine Nat.le_trans (mdI_len _) ?_
  refine Nat.le_trans (mdT_len _) ?_
  refine Nat.le_trans (mdN_len _) ?_
  exact Nat.le_trans (mdT_len _) (mdT_len _)
theorem rdTx_len (b : List UInt8) : (rdTx b).2.1.length ≤ b.length := by
  have h : (rdTx0 (b, 0)).2.1.length ≤ b.length := by
    unfold rdTx0
    simp only
    refine Nat.le_trans (rdEs_len _ _) ?_
    refine Nat.le_trans (rdC_len _ _) ?_
    refine Nat.le_trans (rdNs_len _ _) ?_
    refine Nat.le_trans (rdC_len _ _) ?_
    exact Nat.le_trans (rdN_len _) (rdN_len _)
  unfold rdTx
  (repeat' split) <;> simp [h]
theorem mdTx_len (s : Md) : (mdTx s).2.1.length ≤ s.1.length := rdTx_len s.1
theorem mdV_len (s : Md) : (mdV s).2.1.length ≤ s.1.length := by
  have h : ∀ (n : Nat) (s : Md), (mdNs n s).2.1.length ≤ s.1.length := by
    intro n
    induction n with
    | zero => exact fun s => Nat.le_refl _
    | succ n ih => exact fun s => Nat.le_trans (ih _) (mdN_len s)
  exact Nat.le_trans (h _ _) (mdC_len 8 s)
theorem mdZ_len (s : Md) : (mdZ s).2.1.length ≤ s.1.length := by
  have h : ∀ (n : Nat) (s : Md), (mdTs n s).2.1.length ≤ s.1.length := by
    intro n
    induction n with
    | zero => exact fun s => Nat.le_refl _
    | succ n ih => exact fun s => Nat.le_trans (ih _) (mdT_len s)
  exact Nat.le_trans (h _ _) (mdC_len 8 s)
theorem mdItems_len : ∀ (n : Nat) (s : Md), (mdItems n s).2.1.length ≤ s.1.length
  | 0, s => Nat.le_refl _
  | n + 1, s => Nat.le_trans (mdItems_len n _) (mdItem_len s)
theorem mdTxs_len : ∀ (n : Nat) (s : Md), (mdTxs n s).2.1.length ≤ s.1.length
  | 0, s => Nat.le_refl _
  | n + 1, s => Nat.le_trans (mdTxs_len n _) (mdTx_len s)
theorem rdTx0_wf (b : List UInt8) : WfT (rdTx0 (b, 0)).1 := by
  have hE : ∀ (n : Nat) (s : Rd), ∀ e ∈ (rdEs n s).1, e.f6.length < 1000000 := by
    intro n
    induction n with
    | zero => intro s e he; cases he
    | succ n ih =>
      intro s e he
      rcases List.mem_cons.1 he with rfl | he
      · unfold rdE
        simp only [rdDs_many, many_len]
        have := rdC_le 64 (rdI (rdT (rdN (rdT (rdT (rdN s).2).2).2).2).2).2 (by decide)
        omega
      · exact ih _ e he
  intro e he
  exact hE _ _ e he
theorem mdTx_one (s : Md) : (mdTx s).1 = txn0 ∨ formedT (mdTx s).1 = true := by
  unfold mdTx rdTx
  split
  · split
    · rename_i h
      exact .inr h
    · exact .inl rfl
  · exact .inl rfl
theorem mdTxs_ones : ∀ (n : Nat) (s : Md), ∀ t ∈ (mdTxs n s).1, t = txn0 ∨ formedT t = true
  | 0, s, t, h => by cases h
  | n + 1, s, t, h => by
    rcases List.mem_cons.1 h with rfl | h
    · exact mdTx_one s
    · exact mdTxs_ones n _ t h
abbrev zM : AObj := .blk [.pv (.int .i64 0), .pv (.int .i64 0), .pv (.bool false), .nil, .nil, .nil, .nil, .nil, .nil]
abbrev bMs (m : Msg) (x y : At) : AObj := .blk [.pv (.int .i64 m.f0), .pv (.int .i64 m.f1), .pv (.bool m.f2), .pv (lZ m.f3), .pv (lZ m.f4), .pv (lS m.f5), .pv (lS m.f6), x, y]
abbrev rIm (l : List Item) : AObj := .row true 8 (l.map encI)
abbrev rTm (l : List Txn) : AObj := .row true 4 (l.map encT)
theorem mrd_l0 (m : Msg) (w : Int) (k : Nat) (hk : k < 100000) (n : Nat) : ∀ (i : Nat) (s : Md) (out : List Item), k = i + n → out.length ≤ i → s.1.length < 1000000000 →
    A.lp 21 0 (hd21_0 [.at (.ptr 2000 0 0), .at (.ptr 2001 0 0), .at (.ptr 2003 0 0), iv w, iv k, iv i] [(2000, 0, some zM), (2001, 0, some (bM s)), (2002, 0, some (rIm out)), (2003, 0, some (bMs m (.row 2002 0) .nil))]) =
      some (.exit 0, ex21_0 [.at (.ptr 2000 0 0), .at (.ptr 2001 0 0), .at (.ptr 2003 0 0), iv w] [(2000, 0, some zM), (2001, 0, some (bM (mdItems n s).2)), (2002, 0, some (rIm (out ++ (mdItems n s).1))), (2003, 0, some (bMs m (.row 2002 0) .nil))]) := by
  induction n with
  | zero =>
    intro i s out hi ho hs
    rw [lp_run hL Tryz.func21 rfl (by rfl) 0 rfl]
    obtain rfl : i = k := by omega
    simp [mdItems]
  | succ n ih =>
    intro i s out hi ho hs
    have h2 : i < k := by omega
    have hd := mdItem_len s
    have ih := ih (i + 1) (mdItem s).2 (out ++ [(mdItem s).1]) (by omega) (by simp; omega) (by omega)
    have w6 : IntKind.i64.wrap ((i : Int) + 1) = i + 1 := wr _ (by omega) (by omega)
    have hlim := lim_le (n := out.length) (by omega)
    have q1 := mItem s hs
    unfold mdItems
    generalize mdItem s = r1 at *
    simp [ag, encI] at q1
    rw [lp_run hL Tryz.func21 rfl (by rfl) 0 rfl]
    simp [h2, q1, w6, hlim]
    rw [if_pos ?q]
    (case q => kernel_rfl)
    simp [h2, q1, w6, hlim]
    simp [rIm] at ih ⊢
    exact ih
theorem mrd_l2 (m : Msg) (w : Int) (k : Nat) (hk : k < 100000) (n : Nat) : ∀ (i : Nat) (s : Md) (out : List Txn), k = i + n → out.length ≤ i → s.1.length < 1000000000 →
    A.lp 21 2 (hd21_2 [.at (.ptr 2000 0 0), .at (.ptr 2001 0 0), .at (.ptr 2004 0 0), iv w, iv k, iv i] [(2000, 0, some zM), (2001, 0, some (bM s)), (2002, 0, some (rIm m.f7)), (2003, 0, some (rTm out)), (2004, 0, some (bMs m (.row 2002 0) (.row 2003 0)))]) =
      some (.exit 2, ex21_2 [.at (.ptr 2000 0 0), .at (.ptr 2001 0 0), .at (.ptr 2004 0 0), iv w] [(2000, 0, some zM), (2001, 0, some (bM (mdTxs n s).2)), (2002, 0, some (rIm m.f7)), (2003, 0, some (rTm (out ++ (mdTxs n s).1))), (2004, 0, some (bMs m (.row 2002 0) (.row 2003 0)))]) := by
  induction n with
  | zero =>
    intro i s out hi ho hs
    rw [lp_run hL Tryz.func21 rfl (by rfl) 2 rfl]
    obtain rfl : i = k := by omega
    simp [mdTxs]
  | succ n ih =>
    intro i s out hi ho hs
    have h2 : i < k := by omega
    have hd := mdTx_len s
    have ih := ih (i + 1) (mdTx s).2 (out ++ [(mdTx s).1]) (by omega) (by simp; omega) (by omega)
    have w6 : IntKind.i64.wrap ((i : Int) + 1) = i + 1 := wr _ (by omega) (by omega)
    have hlim := lim_le (n := out.length) (by omega)
    have q1 := txnRead s.1 hs (rdTx0_wf s.1)
    have q2 := mTake s (rdTx s.1).2.1 (rdTx s.1).2.2
    unfold mdTxs
    unfold mdTx at ih ⊢
    generalize rdTx s.1 = r1 at *
    simp [ag, encT] at q1 q2
    rw [lp_run hL Tryz.func21 rfl (by rfl) 2 rfl]
    simp [h2, q1, q2, w6, hlim]
    simp [rTm] at ih ⊢
    exact ih
end Go.E2.S
/-! msg.Read. -/
namespace Go.E2.S
open Go Go.E2 Go.RowKit Go.Proofs
set_option linter.unusedVariables false
set_option linter.unusedSimpArgs false
set_option maxHeartbeats 8000000
set_option maxRecDepth 10000
theorem mdNs_len : ∀ (n : Nat) (s : Md), (mdNs n s).1.length = n
  | 0, s => rfl
  | n + 1, s => by rw [mdNs, List.length_cons, mdNs_len n]
theorem mdTs_len : ∀ (n : Nat) (s : Md), (mdTs n s).1.length = n
  | 0, s => rfl
  | n + 1, s => by rw [mdTs, List.length_cons, mdTs_len n]
theorem mdV_sm (s : Md) : (mdV s).1.length ≤ 8 := by
  unfold mdV
  rw [mdNs_len]
  have := mdC_le 8 s (by decide)
  omega
theorem mdZ_sm (s : Md) : (mdZ s).1.length ≤ 8 := by
  unfold mdZ
  rw [mdTs_len]
  have := mdC_le 8 s (by decide)
  omega
theorem msgRead (b : List UInt8) (hb : b.length < 1000000000) : A.fn 21 [pv (lU b)] [] = some (.tup [ag (encM (readM b).1), iv (readM b).2], []) := by
  rw [readM_R]
  unfold mdMsg
  simp only
  have k1 := mdN_len (b, false)
  have q1 := mNum (b, false) hb
  generalize mdN (b, false) = a1 at *
  simp only at k1
  have k2 := mdN_len a1.2
  have q2 := mNum a1.2 (by omega)
  generalize mdN a1.2 = a2 at *
  have k3 := mdN_len a2.2
  have q3 := mNum a2.2 (by omega)
  generalize mdN a2.2 = a3 at *
  have k4 := mdV_len a3.2
  have s4 := mdV_sm a3.2
  have q4 := mVec a3.2 (by omega)
  generalize mdV a3.2 = v at *
  have k5 := mdV_len v.2
  have s5 := mdV_sm v.2
  have q5 := mVec v.2 (by omega)
  generalize mdV v.2 = f at *
  have k6 := mdZ_len f.2
  have s6 := mdZ_sm f.2
  have q6 := mZone f.2 (by omega)
  generalize mdZ f.2 = z at *
  have k7 := mdZ_len z.2
  have s7 := mdZ_sm z.2
  have q7 := mZone z.2 (by omega)
  generalize mdZ z.2 = k at *
  have k8 := mdC_len 32768 k.2
  have g8 := mdC_le 32768 k.2 (by decide)
  have q8 := mCount k.2 32768 (by omega)
  generalize mdC 32768 k.2 = c at *
  obtain ⟨n, hn⟩ : ∃ n : Nat, c.1 = n := ⟨c.1.toNat, by omega⟩
  rw [hn, Int.toNat_natCast]
  rw [hn] at q8
  have k9 := mdItems_len n c.2
  have l9 : (mdItems n c.2).1.length = n := by rw [mdItems_many, many_len]
  have q9 := mrd_l0 ⟨a1.1, a2.1, isOne a3.1, v.1, f.1, z.1, k.1, [], []⟩ a3.1 n (by omega) n 0 c.2 [] (by omega) (by simp) (by omega)
  generalize mdItems n c.2 = is at *
  have k10 := mdC_len 4096 is.2
  have g10 := mdC_le 4096 is.2 (by decide)
  have q10 := mCount is.2 4096 (by omega)
  generalize mdC 4096 is.2 = d at *
  obtain ⟨m, hm⟩ : ∃ m : Nat, d.1 = m := ⟨d.1.toNat, by omega⟩
  rw [hm, Int.toNat_natCast]
  rw [hm] at q10
  have l11 : (mdTxs m d.2).1.length = m := by rw [mdTxs_many, many_len]
  have o11 := mdTxs_ones m d.2
  have q11 := mrd_l2 ⟨a1.1, a2.1, isOne a3.1, v.1, f.1, z.1, k.1, is.1, []⟩ a3.1 m (by omega) m 0 d.2 [] (by omega) (by simp) (by omega)
  generalize mdTxs m d.2 = ts at *
  have hw : WfM ⟨a1.1, a2.1, isOne a3.1, v.1, f.1, z.1, k.1, is.1, ts.1⟩ := fun t ht => by
    rcases o11 t ht with rfl | h
    · intro e he; cases he
    · exact formedT_wf h
  have q12 := msgFormed ⟨a1.1, a2.1, isOne a3.1, v.1, f.1, z.1, k.1, is.1, ts.1⟩ hw (by simp only; omega) (by simp only; omega) (by simp only; omega) (by simp only; omega) (by simp only; omega) (by simp only; omega) (fun t ht => by
    rcases o11 t ht with rfl | h
    · exact ⟨by decide, by decide, by decide⟩
    · obtain ⟨h1, h2, h3, h4, _⟩ := formedT_parts h
      exact ⟨by omega, by omega, by omega⟩)
  generalize hfm : formedM ⟨a1.1, a2.1, isOne a3.1, v.1, f.1, z.1, k.1, is.1, ts.1⟩ = fm at q12
  clear k1 k2 k3 k4 k5 k6 k7 k8 k9 k10 g8 g10 s4 s5 s6 s7 l9 l11 o11 hw
  simp at q1 q2 q3 q4 q5 q6 q7 q8 q10
  simp [rIm, rTm, bMs] at q9 q11
  simp [ag, encM] at q12
  obtain ⟨tl, tb, tx⟩ := ts
  simp only at *
  have e0 : isOne a3.1 = decide (a3.1 = 1) := rfl
  cases tx with
  | true =>
    have e : readR ((⟨a1.1, a2.1, isOne a3.1, v.1, f.1, z.1, k.1, is.1, tl⟩, a3.1), tb, true) = (msg0, 2) := by simp [readR, failM]
    rw [e]
    simp only
    rw [e0] at q9 q11
    rw [fn_run hL Tryz.func21 rfl L21 (by rfl) rfl rfl rfl (by decide)]
    (simp [Tryz.f21, q1, q2, q3, q4, q5, q6, q7, q8, q9, q10, q11, encM, msg0]; try (rw [if_pos ?q]; (case q => kernel_rfl); simp [Tryz.f21, q1, q2, q3, q4, q5, q6, q7, q8, q9, q10, q11, encM, msg0]))
  | false =>
    by_cases h1 : 1 < a3.1
    · have e : readR ((⟨a1.1, a2.1, isOne a3.1, v.1, f.1, z.1, k.1, is.1, tl⟩, a3.1), tb, false) = (msg0, 2) := by simp [readR, failM, h1]
      rw [e]
      simp only
      rw [e0] at q9 q11
      rw [fn_run hL Tryz.func21 rfl L21 (by rfl) rfl rfl rfl (by decide)]
      (simp [Tryz.f21, q1, q2, q3, q4, q5, q6, q7, q8, q9, q10, q11, encM, msg0, h1]; try (rw [if_pos ?q]; (case q => kernel_rfl); simp [Tryz.f21, q1, q2, q3, q4, q5, q6, q7, q8, q9, q10, q11, encM, msg0, h1]))
    · by_cases h2 : 0 < tb.length
      · have e : readR ((⟨a1.1, a2.1, isOne a3.1, v.1, f.1, z.1, k.1, is.1, tl⟩, a3.1), tb, false) = (msg0, 2) := by simp [readR, failM, h1, h2]
        rw [e]
        simp only
        rw [e0] at q9 q11
        rw [fn_run hL Tryz.func21 rfl L21 (by rfl) rfl rfl rfl (by decide)]
        (simp [Tryz.f21, q1, q2, q3, q4, q5, q6, q7, q8, q9, q10, q11, encM, msg0, h1, h2, -Int.not_lt]; try (rw [if_pos ?q]; (case q => kernel_rfl); simp [Tryz.f21, q1, q2, q3, q4, q5, q6, q7, q8, q9, q10, q11, encM, msg0, h1, h2, -Int.not_lt]))
      · have e : readR ((⟨a1.1, a2.1, isOne a3.1, v.1, f.1, z.1, k.1, is.1, tl⟩, a3.1), tb, false) = if fm = true then (⟨a1.1, a2.1, isOne a3.1, v.1, f.1, z.1, k.1, is.1, tl⟩, 0) else (msg0, 2) := by
          cases fm <;> simp [readR, failM, h1, h2, hfm]
        rw [e]
        clear e hfm
        rw [e0] at q9 q11 q12 ⊢
        rw [fn_run hL Tryz.func21 rfl L21 (by rfl) rfl rfl rfl (by decide)]
        cases fm with
        | true => (simp [Tryz.f21, q1, q2, q3, q4, q5, q6, q7, q8, q9, q10, q11, q12, encM, msg0, h1, h2, -Int.not_lt]; try (rw [if_pos ?q]; (case q => kernel_rfl); simp [Tryz.f21, q1, q2, q3, q4, q5, q6, q7, q8, q9, q10, q11, q12, encM, msg0, h1, h2, -Int.not_lt]))
        | false => (simp [Tryz.f21, q1, q2, q3, q4, q5, q6, q7, q8, q9, q10, q11, q12, encM, msg0, h1, h2, -Int.not_lt]; try (rw [if_pos ?q]; (case q => kernel_rfl); simp [Tryz.f21, q1, q2, q3, q4, q5, q6, q7, q8, q9, q10, q11, q12, encM, msg0, h1, h2, -Int.not_lt]))
end Go.E2.S
