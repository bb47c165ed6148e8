/- VRa: VR1, VR2, VR3, VR4, VR5, VR6, VR7, VR8, VR9. -/
import Derived.Test.YtiliffhopdiepaaGreatVBa
import Derived.Test.YtiliffhopdiepaaGreatVTa
/-! Readers: txn.reader.num, count, text, int. -/
namespace Go.E2.S
open Go Go.E2 Go.RowKit Go.Proofs
set_option linter.unusedVariables false
set_option linter.unusedSimpArgs false
set_option maxHeartbeats 4000000
set_option maxRecDepth 10000
abbrev Rd := List UInt8 × Int
abbrev bR (s : Rd) : AObj := .blk [.pv (lU s.1), .pv (.int .i64 s.2)]
def rdN (s : Rd) : Int × Rd := if s.2 = 0 then (((getN s.1).1 : Int), (getN s.1).2) else (0, s)
def rdT (s : Rd) : ByteArray × Rd := if s.2 = 0 then getT s.1 else (⟨#[]⟩, s)
def rdI (s : Rd) : Int × Rd := if s.2 = 0 then getI s.1 else (0, s)
def rdC (most : Int) (s : Rd) : Int × Rd := if (rdN s).2.2 = 0 then (if most < (rdN s).1 then (0, (rdN s).2.1, 2) else rdN s) else (0, (rdN s).2)
theorem trdNum (s : Rd) (hs : s.1.length < 1000000000) : A.fn 167 [.at (.ptr pinN 0 0)] [bR s] = some (.one (iv (rdN s).1), [some (bR (rdN s).2)]) := by
  obtain ⟨b, e⟩ := s
  have q := numC b hs
  unfold rdN
  by_cases h : e = 0
  · rw [if_pos h]
    simp only [h]
    generalize getN b = r at *
    rw [fn_run hL Tryz.func167 rfl L167 (by rfl) rfl rfl rfl (by decide)]
    simp [Tryz.f167, q]
  · rw [if_neg h]
    rw [fn_run hL Tryz.func167 rfl L167 (by rfl) rfl rfl rfl (by decide)]
    simp [Tryz.f167, h]
theorem trdText (s : Rd) (hs : s.1.length < 1000000000) : A.fn 213 [.at (.ptr pinN 0 0)] [bR s] = some (.one (sv (rdT s).1), [some (bR (rdT s).2)]) := by
  obtain ⟨b, e⟩ := s
  have q := textC b hs
  unfold rdT
  by_cases h : e = 0
  · rw [if_pos h]
    simp only [h]
    generalize getT b = r at *
    rw [fn_run hL Tryz.func213 rfl L213 (by rfl) rfl rfl rfl (by decide)]
    simp [Tryz.f213, q]
  · rw [if_neg h]
    rw [fn_run hL Tryz.func213 rfl L213 (by rfl) rfl rfl rfl (by decide)]
    simp [Tryz.f213, h]
theorem trdInt (s : Rd) (hs : s.1.length < 1000000000) : A.fn 214 [.at (.ptr pinN 0 0)] [bR s] = some (.one (iv (rdI s).1), [some (bR (rdI s).2)]) := by
  obtain ⟨b, e⟩ := s
  have q := intC b hs
  unfold rdI
  by_cases h : e = 0
  · rw [if_pos h]
    simp only [h]
    generalize getI b = r at *
    rw [fn_run hL Tryz.func214 rfl L214 (by rfl) rfl rfl rfl (by decide)]
    simp [Tryz.f214, q]
  · rw [if_neg h]
    rw [fn_run hL Tryz.func214 rfl L214 (by rfl) rfl rfl rfl (by decide)]
    simp [Tryz.f214, h]
theorem trdCount (s : Rd) (most : Int) (hs : s.1.length < 1000000000) : A.fn 168 [.at (.ptr pinN 0 0), iv most] [bR s] = some (.one (iv (rdC most s).1), [some (bR (rdC most s).2)]) := by
  have q := trdNum s hs
  unfold rdC
  generalize rdN s = r at *
  obtain ⟨n, b, e⟩ := r
  simp only at q ⊢
  by_cases h : e = 0
  · by_cases h2 : most < n
    · rw [fn_run hL Tryz.func168 rfl L168 (by rfl) rfl rfl rfl (by decide)]
      simp [Tryz.f168, q, h, h2]
    · rw [fn_run hL Tryz.func168 rfl L168 (by rfl) rfl rfl rfl (by decide)]
      simp [Tryz.f168, q, h, h2, -Int.not_lt]
  · rw [fn_run hL Tryz.func168 rfl L168 (by rfl) rfl rfl rfl (by decide)]
    simp [Tryz.f168, q, h]
end Go.E2.S
/-! Readers: txn.reader.eff. -/
namespace Go.E2.S
open Go Go.E2 Go.RowKit Go.Proofs
set_option linter.unusedVariables false
set_option linter.unusedSimpArgs false
set_option maxHeartbeats 4000000
set_option maxRecDepth 10000
theorem rdN_len (s : Rd) : (rdN s).2.1.length ≤ s.1.length := by
  unfold rdN
  split
  · exact numR_len s.1 0 0
  · exact Nat.le_refl _
theorem rdT_len (s : Rd) : (rdT s).2.1.length ≤ s.1.length := by
  unfold rdT
  split
  · have h := numR_len s.1 0 0
    have h' : (getN s.1).2.1.length ≤ s.1.length := h
    unfold getT
    (repeat' split) <;> simp <;> omega
  · exact Nat.le_refl _
theorem rdI_len (s : Rd) : (rdI s).2.1.length ≤ s.1.length := by
  unfold rdI
  split
  · unfold getI
    split <;> simp
  · exact Nat.le_refl _
theorem rdC_len (most : Int) (s : Rd) : (rdC most s).2.1.length ≤ s.1.length := by
  have := rdN_len s
  unfold rdC
  (repeat' split) <;> exact this
theorem rdC_le (most : Int) (s : Rd) (h : 0 ≤ most) : 0 ≤ (rdC most s).1 ∧ (rdC most s).1 ≤ most := by
  have h0 : 0 ≤ (rdN s).1 := by
    unfold rdN
    split
    · exact Int.natCast_nonneg _
    · exact Int.le_refl _
  unfold rdC
  (repeat' split) <;> refine ⟨?_, ?_⟩ <;> (try simp only) <;> omega
def rdD (s : Rd) : Dot × Rd := (⟨(rdN s).1, (rdN (rdN s).2).1, (rdN (rdN (rdN s).2).2).1⟩, (rdN (rdN (rdN s).2).2).2)
def rdDs : Nat → Rd → List Dot × Rd
  | 0, s => ([], s)
  | n + 1, s => ((rdD s).1 :: (rdDs n (rdD s).2).1, (rdDs n (rdD s).2).2)
theorem rdD_len (s : Rd) : (rdD s).2.1.length ≤ s.1.length := by
  have h1 := rdN_len s
  have h2 := rdN_len (rdN s).2
  have h3 := rdN_len (rdN (rdN s).2).2
  unfold rdD
  simp only
  omega
abbrev rDr (l : List Dot) : AObj := .row true 3 (l.map encD)
abbrev z0 : AObj := .blk [.pv (.int .i64 0), .pv (.str ⟨#[]⟩), .pv (.str ⟨#[]⟩), .pv (.int .i64 0), .pv (.str ⟨#[]⟩), .pv (.int .i64 0), .nil]
abbrev bE (e : Eff) (x : At) : AObj := .blk [.pv (.int .i64 e.f0), .pv (.str e.f1), .pv (.str e.f2), .pv (.int .i64 e.f3), .pv (.str e.f4), .pv (.int .i64 e.f5), x]
theorem reff_l0 (e : Eff) (k : Nat) (hk : k < 1000) (n : Nat) : ∀ (i : Nat) (s : Rd) (out : List Dot), k = i + n → out.length ≤ i → s.1.length < 1000000000 →
    A.lp 169 0 (hd169_0 [.at (.ptr pinN 0 0), .at (.ptr 2001 0 0), .at (.ptr 2003 0 0), iv k, iv i] [(pinN, 0, some (bR s)), (2001, 0, some z0), (2002, 0, some (rDr out)), (2003, 0, some (bE e (.row 2002 0)))]) =
      some (.exit 0, ex169_0 [.at (.ptr 2001 0 0), .at (.ptr 2003 0 0)] [(pinN, 0, some (bR (rdDs n s).2)), (2001, 0, some z0), (2002, 0, some (rDr (out ++ (rdDs n s).1))), (2003, 0, some (bE e (.row 2002 0)))]) := by
  induction n with
  | zero =>
    intro i s out hi ho hs
    rw [lp_run hL Tryz.func169 rfl (by rfl) 0 rfl]
    obtain rfl : i = k := by omega
    simp [rdDs]
  | succ n ih =>
    intro i s out hi ho hs
    have h2 : i < k := by omega
    have hd := rdD_len s
    have h1 := rdN_len s
    have h3 := rdN_len (rdN s).2
    have ih := ih (i + 1) (rdD s).2 (out ++ [(rdD s).1]) (by omega) (by simp; omega) (by omega)
    have w6 : IntKind.i64.wrap ((i : Int) + 1) = i + 1 := wr _ (by omega) (by omega)
    have hlim := lim_le (n := out.length) (by omega)
    have q1 := trdNum s hs
    have q2 := trdNum (rdN s).2 (by omega)
    have q3 := trdNum (rdN (rdN s).2).2 (by omega)
    unfold rdDs
    unfold rdD at ih ⊢
    generalize rdN s = r1 at *
    generalize rdN r1.2 = r2 at *
    generalize rdN r2.2 = r3 at *
    simp at q1 q2 q3
    rw [lp_run hL Tryz.func169 rfl (by rfl) 0 rfl]
    simp [h2, q1, q2, q3, w6, hlim]
    rw [if_pos ?q]
    (case q => kernel_rfl)
    simp [h2, q1, q2, q3, w6, hlim]
    simp [rDr] at ih ⊢
    exact ih
theorem rdDs_len : ∀ (n : Nat) (s : Rd), (rdDs n s).2.1.length ≤ s.1.length
  | 0, s => Nat.le_refl _
  | n + 1, s => Nat.le_trans (rdDs_len n (rdD s).2) (rdD_len s)
def rdE6 (s : Rd) : Rd := (rdI (rdT (rdN (rdT (rdT (rdN s).2).2).2).2).2).2
def rdE (s : Rd) : Eff × Rd :=
  let a := rdN s
  let b := rdT a.2
  let c := rdT b.2
  let d := rdN c.2
  let e := rdT d.2
  let f := rdI e.2
  let k := rdC 64 f.2
  let ds := rdDs k.1.toNat k.2
  (⟨a.1, b.1, c.1, d.1, e.1, f.1, ds.1⟩, ds.2)
theorem trdEff (s : Rd) (hs : s.1.length < 1000000000) : A.fn 169 [.at (.ptr pinN 0 0)] [bR s] = some (.one (ag (encE (rdE s).1)), [some (bR (rdE s).2)]) := by
  unfold rdE
  simp only
  have k1 := rdN_len s
  have q1 := trdNum s hs
  generalize rdN s = a at *
  have k2 := rdT_len a.2
  have q2 := trdText a.2 (by omega)
  generalize rdT a.2 = b at *
  have k3 := rdT_len b.2
  have q3 := trdText b.2 (by omega)
  generalize rdT b.2 = c at *
  have k4 := rdN_len c.2
  have q4 := trdNum c.2 (by omega)
  generalize rdN c.2 = d at *
  have k5 := rdT_len d.2
  have q5 := trdText d.2 (by omega)
  generalize rdT d.2 = e at *
  have k6 := rdI_len e.2
  have q6 := trdInt e.2 (by omega)
  generalize rdI e.2 = f at *
  have k7 := rdC_len 64 f.2
  have q7 := trdCount f.2 64 (by omega)
  have g7 := rdC_le 64 f.2 (by decide)
  generalize rdC 64 f.2 = k at *
  obtain ⟨n, hn⟩ : ∃ n : Nat, k.1 = n := ⟨k.1.toNat, by omega⟩
  have q8 := reff_l0 ⟨a.1, b.1, c.1, d.1, e.1, f.1, []⟩ n (by omega) n 0 k.2 [] (by omega) (by simp) (by omega)
  rw [hn] at q7 ⊢
  rw [Int.toNat_natCast]
  generalize rdDs n k.2 = r at *
  clear k1 k2 k3 k4 k5 k6 k7 g7
  simp at q1 q2 q3 q4 q5 q6 q7
  simp [rDr] at q8
  rw [fn_run hL Tryz.func169 rfl L169 (by rfl) rfl rfl rfl (by decide)]
  simp [Tryz.f169, q1, q2, q3, q4, q5, q6, q7, q8]
end Go.E2.S
/-! txn.Read. -/
namespace Go.E2.S
open Go Go.E2 Go.RowKit Go.Proofs
set_option linter.unusedVariables false
set_option linter.unusedSimpArgs false
set_option maxHeartbeats 4000000
set_option maxRecDepth 10000
def rdNs : Nat → Rd → List Int × Rd
  | 0, s => ([], s)
  | n + 1, s => ((rdN s).1 :: (rdNs n (rdN s).2).1, (rdNs n (rdN s).2).2)
def rdEs : Nat → Rd → List Eff × Rd
  | 0, s => ([], s)
  | n + 1, s => ((rdE s).1 :: (rdEs n (rdE s).2).1, (rdEs n (rdE s).2).2)
theorem rdNs_len : ∀ (n : Nat) (s : Rd), (rdNs n s).2.1.length ≤ s.1.length
  | 0, s => Nat.le_refl _
  | n + 1, s => Nat.le_trans (rdNs_len n (rdN s).2) (rdN_len s)
theorem rdE_len (s : Rd) : (rdE s).2.1.length ≤ s.1.length := by
  unfold rdE
  simp only
  refine Nat.le_trans (rdDs_len _ _) ?_
  refine Nat.le_trans (rdC_len _ _) ?_
  refine Nat.le_trans (rdI_len _) ?_
  refine Nat.le_trans (rdT_len _) ?_
  refine Nat.le_trans (rdN_len _) ?_
  refine Nat.le_trans (rdT_len _) ?_
  exact Nat.le_trans (rdT_len _) (rdN_len _)
theorem rdEs_len : ∀ (n : Nat) (s : Rd), (rdEs n s).2.1.length ≤ s.1.length
  | 0, s => Nat.le_refl _
  | n + 1, s => Nat.le_trans (rdEs_len n (rdE s).2) (rdE_len s)
abbrev rZr (l : List Int) : AObj := .row true 1 (l.map encZ)
abbrev zT : AObj := .blk [.pv (.int .i64 0), .pv (.int .i64 0), .nil, .nil]
abbrev bT (a b : Int) (x y : At) : AObj := .blk [.pv (.int .i64 a), .pv (.int .i64 b), x, y]
theorem rd_l0 (a b : Int) (k : Nat) (hk : k < 1000) (n : Nat) : ∀ (i : Nat) (s : Rd) (out : List Int), k = i + n → out.length ≤ i → s.1.length < 1000000000 →
    A.lp 93 0 (hd93_0 [.at (.ptr 2000 0 0), .at (.ptr 2001 0 0), .at (.ptr 2003 0 0), iv k, iv i] [(2000, 0, some zT), (2001, 0, some (bR s)), (2002, 0, some (rZr out)), (2003, 0, some (bT a b (.row 2002 0) .nil))]) =
      some (.exit 0, ex93_0 [.at (.ptr 2000 0 0), .at (.ptr 2001 0 0), .at (.ptr 2003 0 0)] [(2000, 0, some zT), (2001, 0, some (bR (rdNs n s).2)), (2002, 0, some (rZr (out ++ (rdNs n s).1))), (2003, 0, some (bT a b (.row 2002 0) .nil))]) := by
  induction n with
  | zero =>
    intro i s out hi ho hs
    rw [lp_run hL Tryz.func93 rfl (by rfl) 0 rfl]
    obtain rfl : i = k := by omega
    simp [rdNs]
  | succ n ih =>
    intro i s out hi ho hs
    have h2 : i < k := by omega
    have hd := rdN_len s
    have ih := ih (i + 1) (rdN s).2 (out ++ [(rdN s).1]) (by omega) (by simp; omega) (by omega)
    have w6 : IntKind.i64.wrap ((i : Int) + 1) = i + 1 := wr _ (by omega) (by omega)
    have hlim := lim_le (n := out.length) (by omega)
    have q1 := trdNum s hs
    unfold rdNs
    generalize rdN s = r1 at *
    simp at q1
    rw [lp_run hL Tryz.func93 rfl (by rfl) 0 rfl]
    simp [h2, q1, w6, hlim]
    rw [if_pos ?q]
    (case q => kernel_rfl)
    simp [h2, q1, w6, hlim]
    simp [rZr] at ih ⊢
    exact ih
abbrev rEr (l : List Eff) : AObj := .row true 7 (l.map encE)
theorem rd_l2 (a b : Int) (d : List Int) (k : Nat) (hk : k < 1000) (n : Nat) : ∀ (i : Nat) (s : Rd) (out : List Eff), k = i + n → out.length ≤ i → s.1.length < 1000000000 →
    A.lp 93 2 (hd93_2 [.at (.ptr 2000 0 0), .at (.ptr 2001 0 0), .at (.ptr 2004 0 0), iv k, iv i] [(2000, 0, some zT), (2001, 0, some (bR s)), (2002, 0, some (rZr d)), (2003, 0, some (rEr out)), (2004, 0, some (bT a b (.row 2002 0) (.row 2003 0)))]) =
      some (.exit 2, ex93_2 [.at (.ptr 2000 0 0), .at (.ptr 2001 0 0), .at (.ptr 2004 0 0)] [(2000, 0, some zT), (2001, 0, some (bR (rdEs n s).2)), (2002, 0, some (rZr d)), (2003, 0, some (rEr (out ++ (rdEs n s).1))), (2004, 0, some (bT a b (.row 2002 0) (.row 2003 0)))]) := by
  induction n with
  | zero =>
    intro i s out hi ho hs
    rw [lp_run hL Tryz.func93 rfl (by rfl) 2 rfl]
    obtain rfl : i = k := by omega
    simp [rdEs]
  | succ n ih =>
    intro i s out hi ho hs
    have h2 : i < k := by omega
    have hd := rdE_len s
    have ih := ih (i + 1) (rdE s).2 (out ++ [(rdE s).1]) (by omega) (by simp; omega) (by omega)
    have w6 : IntKind.i64.wrap ((i : Int) + 1) = i + 1 := wr _ (by omega) (by omega)
    have hlim := lim_le (n := out.length) (by omega)
    have q1 := trdEff s hs
    unfold rdEs
    generalize rdE s = r1 at *
    simp [ag, encE] at q1
    rw [lp_run hL Tryz.func93 rfl (by rfl) 2 rfl]
    simp [h2, q1, w6, hlim]
    rw [if_pos ?q]
    (case q => kernel_rfl)
    simp [h2, q1, w6, hlim]
    simp [rEr] at ih ⊢
    exact ih
end Go.E2.S
/-! txn.Read. -/
namespace Go.E2.S
open Go Go.E2 Go.RowKit Go.Proofs
set_option linter.unusedVariables false
set_option linter.unusedSimpArgs false
set_option maxHeartbeats 4000000
set_option maxRecDepth 10000
def rdTx0 (s : Rd) : Txn × Rd :=
  let a := rdN s
  let b := rdN a.2
  let c := rdC 8 b.2
  let d := rdNs c.1.toNat c.2
  let e := rdC 8 d.2
  let f := rdEs e.1.toNat e.2
  (⟨a.1, b.1, d.1, f.1⟩, f.2)
def txn0 : Txn := ⟨0, 0, [], []⟩
def rdTx (b : List UInt8) : Txn × List UInt8 × Int :=
  if (rdTx0 (b, 0)).2.2 = 0 then (if formedT (rdTx0 (b, 0)).1 = true then ((rdTx0 (b, 0)).1, (rdTx0 (b, 0)).2.1, 0) else (txn0, [], 2)) else (txn0, [], (rdTx0 (b, 0)).2.2)
theorem txnRead (b : List UInt8) (hb : b.length < 1000000000) (hw : WfT (rdTx0 (b, 0)).1) : A.fn 93 [pv (lU b)] [] = some (.tup [ag (encT (rdTx b).1), pv (lU (rdTx b).2.1), iv (rdTx b).2.2], []) := by
  have q9 := txnFormed (rdTx0 (b, 0)).1 hw
  clear hw
  unfold rdTx
  unfold rdTx0 at q9 ⊢
  simp only at q9 ⊢
  have k1 := rdN_len (b, 0)
  have q1 := trdNum (b, 0) hb
  generalize rdN (b, 0) = a1 at *
  simp only at k1
  have k2 := rdN_len a1.2
  have q2 := trdNum a1.2 (by omega)
  generalize rdN a1.2 = a2 at *
  have k3 := rdC_len 8 a2.2
  have q3 := trdCount a2.2 8 (by omega)
  have g3 := rdC_le 8 a2.2 (by decide)
  generalize rdC 8 a2.2 = c1 at *
  obtain ⟨n, hn⟩ : ∃ n : Nat, c1.1 = n := ⟨c1.1.toNat, by omega⟩
  rw [hn, Int.toNat_natCast] at q9 ⊢
  rw [hn] at q3
  have k4 := rdNs_len n c1.2
  have q4 := rd_l0 a1.1 a2.1 n (by omega) n 0 c1.2 [] (by omega) (by simp) (by omega)
  generalize rdNs n c1.2 = d at *
  have k5 := rdC_len 8 d.2
  have q5 := trdCount d.2 8 (by omega)
  have g5 := rdC_le 8 d.2 (by decide)
  generalize rdC 8 d.2 = c2 at *
  obtain ⟨m, hm⟩ : ∃ m : Nat, c2.1 = m := ⟨c2.1.toNat, by omega⟩
  rw [hm, Int.toNat_natCast] at q9 ⊢
  rw [hm] at q5
  have k6 := rdEs_len m c2.2
  have q6 := rd_l2 a1.1 a2.1 d.1 m (by omega) m 0 c2.2 [] (by omega) (by simp) (by omega)
  have q7 := cloneU (rdEs m c2.2).2.1 (by omega)
  generalize rdEs m c2.2 = f at *
  clear k1 k2 k3 k4 k5 k6 g3 g5
  simp at q1 q2 q3 q5
  simp [rZr, rEr] at q4 q6
  simp [rU] at q7
  simp [ag] at q9
  by_cases h : f.2.2 = 0
  · cases hf : formedT ⟨a1.1, a2.1, d.1, f.1⟩ with
    | true =>
      rw [hf] at q9
      rw [fn_run hL Tryz.func93 rfl L93 (by rfl) rfl rfl rfl (by decide)]
      simp [Tryz.f93, q1, q2, q3, q4, q5, q6, q9, h, q7]
      rw [if_pos ?q]
      (case q => kernel_rfl)
      simp [q7, h, hf, txn0, encT]
    | false =>
      rw [hf] at q9
      rw [fn_run hL Tryz.func93 rfl L93 (by rfl) rfl rfl rfl (by decide)]
      simp [Tryz.f93, q1, q2, q3, q4, q5, q6, q9, h, q7]
      rw [if_pos ?q]
      (case q => kernel_rfl)
      simp [q7, h, hf, txn0, encT]
  · rw [fn_run hL Tryz.func93 rfl L93 (by rfl) rfl rfl rfl (by decide)]
    simp [Tryz.f93, q1, q2, q3, q4, q5, q6, h, q7]
    rw [if_pos ?q]
    (case q => kernel_rfl)
    simp [q7, h, txn0, encT]
end Go.E2.S
/-! Readers: msg.reader.take, num, text. -/
namespace Go.E2.S
open Go Go.E2 Go.RowKit Go.Proofs
set_option linter.unusedVariables false
set_option linter.unusedSimpArgs false
set_option maxHeartbeats 4000000
set_option maxRecDepth 10000
abbrev Md := List UInt8 × Bool
abbrev bM (s : Md) : AObj := .blk [.pv (lU s.1), .pv (.bool s.2)]
def mdN (s : Md) : Int × Md := (((getN s.1).1 : Int), (getN s.1).2.1, s.2 || !decide ((getN s.1).2.2 = 0))
def mdT (s : Md) : ByteArray × Md := ((getT s.1).1, (getT s.1).2.1, s.2 || !decide ((getT s.1).2.2 = 0))
theorem mTake (s : Md) (b : List UInt8) (e : Int) : A.fn 94 [.at (.ptr pinN 0 0), pv (lU b), iv e] [bM s] = some (.tup [], [some (bM (b, s.2 || !decide (e = 0)))]) := by
  obtain ⟨a, x⟩ := s
  by_cases h : e = 0
  · cases x <;> (rw [fn_run hL Tryz.func94 rfl L94 (by rfl) rfl rfl rfl (by decide)]; simp [Tryz.f94, h])
  · cases x <;> (rw [fn_run hL Tryz.func94 rfl L94 (by rfl) rfl rfl rfl (by decide)]; simp [Tryz.f94, h])
theorem mNum (s : Md) (hs : s.1.length < 1000000000) : A.fn 88 [.at (.ptr pinN 0 0)] [bM s] = some (.one (iv (mdN s).1), [some (bM (mdN s).2)]) := by
  have q := numC s.1 hs
  have q2 := mTake s (getN s.1).2.1 (getN s.1).2.2
  unfold mdN
  generalize getN s.1 = r at *
  simp at q2
  rw [fn_run hL Tryz.func88 rfl L88 (by rfl) rfl rfl rfl (by decide)]
  simp [Tryz.f88, q, q2]
theorem mText (s : Md) (hs : s.1.length < 1000000000) : A.fn 165 [.at (.ptr pinN 0 0)] [bM s] = some (.one (sv (mdT s).1), [some (bM (mdT s).2)]) := by
  have q := textC s.1 hs
  have q2 := mTake s (getT s.1).2.1 (getT s.1).2.2
  unfold mdT
  generalize getT s.1 = r at *
  simp at q2
  rw [fn_run hL Tryz.func165 rfl L165 (by rfl) rfl rfl rfl (by decide)]
  simp [Tryz.f165, q, q2]
end Go.E2.S
/-! Readers: msg.reader.count. -/
namespace Go.E2.S
open Go Go.E2 Go.RowKit Go.Proofs
set_option linter.unusedVariables false
set_option linter.unusedSimpArgs false
set_option maxHeartbeats 4000000
set_option maxRecDepth 10000
def badC (most : Int) (r : Int × Md) : Bool := r.2.2 || (decide (most < r.1) || decide ((r.2.1.length : Int) < r.1))
def mdC (most : Int) (s : Md) : Int × Md := if badC most (mdN s) = true then (0, (mdN s).2.1, true) else mdN s
theorem mCount (s : Md) (most : Int) (hs : s.1.length < 1000000000) : A.fn 91 [.at (.ptr pinN 0 0), iv most] [bM s] = some (.one (iv (mdC most s).1), [some (bM (mdC most s).2)]) := by
  have q := mNum s hs
  unfold mdC badC
  generalize mdN s = r at *
  obtain ⟨n, b, e⟩ := r
  simp only at q ⊢
  by_cases h : most < n
  · cases e <;> (rw [fn_run hL Tryz.func91 rfl L91 (by rfl) rfl rfl rfl (by decide)]; simp [Tryz.f91, q, h])
  · by_cases h2 : (b.length : Int) < n
    · cases e <;> (rw [fn_run hL Tryz.func91 rfl L91 (by rfl) rfl rfl rfl (by decide)]; simp [Tryz.f91, q, h, h2, -Int.not_lt])
    · cases e <;> (rw [fn_run hL Tryz.func91 rfl L91 (by rfl) rfl rfl rfl (by decide)]; simp [Tryz.f91, q, h, h2, -Int.not_lt])
end Go.E2.S
/-! Readers: msg.reader.vec, zone. -/
namespace Go.E2.S
open Go Go.E2 Go.RowKit Go.Proofs
set_option linter.unusedVariables false
set_option linter.unusedSimpArgs false
set_option maxHeartbeats 4000000
set_option maxRecDepth 10000
theorem mdN_len (s : Md) : (mdN s).2.1.length ≤ s.1.length := numR_len s.1 0 0
theorem mdN_pos (s : Md) : 0 ≤ (mdN s).1 := Int.natCast_nonneg _
theorem mdC_len (most : Int) (s : Md) : (mdC most s).2.1.length ≤ s.1.length := by
  unfold mdC
  split <;> exact mdN_len s
theorem mdC_le (most : Int) (s : Md) (h : 0 ≤ most) : 0 ≤ (mdC most s).1 ∧ (mdC most s).1 ≤ most := by
  have := mdN_pos s
  unfold mdC
  split
  · exact ⟨Int.le_refl _, h⟩
  · rename_i hb
    simp [badC] at hb
    omega
def mdNs : Nat → Md → List Int × Md
  | 0, s => ([], s)
  | n + 1, s => ((mdN s).1 :: (mdNs n (mdN s).2).1, (mdNs n (mdN s).2).2)
abbrev rZm (l : List Int) : AObj := .row true 1 (l.map encZ)
theorem mvec_l0 (k : Nat) (hk : k < 1000) (n : Nat) : ∀ (i : Nat) (s : Md) (out : List Int), k = i + n → out.length ≤ i → s.1.length < 1000000000 →
    A.lp 89 0 (hd89_0 [.at (.ptr pinN 0 0), .at (.row 2001 0), iv k, iv i] [(pinN, 0, some (bM s)), (2001, 0, some (rZm out))]) =
      some (.exit 0, ex89_0 [.at (.row 2001 0)] [(pinN, 0, some (bM (mdNs n s).2)), (2001, 0, some (rZm (out ++ (mdNs n s).1)))]) := by
  induction n with
  | zero =>
    intro i s out hi ho hs
    rw [lp_run hL Tryz.func89 rfl (by rfl) 0 rfl]
    obtain rfl : i = k := by omega
    simp [mdNs]
  | succ n ih =>
    intro i s out hi ho hs
    have h2 : i < k := by omega
    have hd := mdN_len s
    have ih := ih (i + 1) (mdN s).2 (out ++ [(mdN s).1]) (by omega) (by simp; omega) (by omega)
    have w6 : IntKind.i64.wrap ((i : Int) + 1) = i + 1 := wr _ (by omega) (by omega)
    have hlim := lim_le (n := out.length) (by omega)
    have q1 := mNum s hs
    unfold mdNs
    generalize mdN s = r1 at *
    simp at q1
    rw [lp_run hL Tryz.func89 rfl (by rfl) 0 rfl]
    simp [h2, q1, w6, hlim]
    simp [rZm] at ih ⊢
    exact ih
def mdV (s : Md) : List Int × Md := mdNs (mdC 8 s).1.toNat (mdC 8 s).2
theorem mVec (s : Md) (hs : s.1.length < 1000000000) : A.fn 89 [.at (.ptr pinN 0 0)] [bM s] = some (.one (pv (lZ (mdV s).1)), [some (bM (mdV s).2)]) := by
  have k := mdC_len 8 s
  have g := mdC_le 8 s (by decide)
  have q := mCount s 8 hs
  unfold mdV
  generalize mdC 8 s = c at *
  obtain ⟨n, hn⟩ : ∃ n : Nat, c.1 = n := ⟨c.1.toNat, by omega⟩
  have h := mvec_l0 n (by omega) n 0 c.2 [] (by omega) (by simp) (by omega)
  rw [hn] at q ⊢
  rw [Int.toNat_natCast]
  generalize mdNs n c.2 = r at *
  simp at q
  simp [rZm] at h
  rw [fn_run hL Tryz.func89 rfl L89 (by rfl) rfl rfl rfl (by decide)]
  simp [Tryz.f89, q, h]
end Go.E2.S
/-! Readers: msg.reader.zone. -/
namespace Go.E2.S
open Go Go.E2 Go.RowKit Go.Proofs
set_option linter.unusedVariables false
set_option linter.unusedSimpArgs false
set_option maxHeartbeats 4000000
set_option maxRecDepth 10000
theorem mdT_len (s : Md) : (mdT s).2.1.length ≤ s.1.length := by
  have h' : (getN s.1).2.1.length ≤ s.1.length := numR_len s.1 0 0
  unfold mdT getT
  (repeat' split) <;> simp <;> omega
def mdTs : Nat → Md → List ByteArray × Md
  | 0, s => ([], s)
  | n + 1, s => ((mdT s).1 :: (mdTs n (mdT s).2).1, (mdTs n (mdT s).2).2)
abbrev rSm (l : List ByteArray) : AObj := .row true 1 (l.map encS)
theorem mzone_l0 (k : Nat) (hk : k < 1000) (n : Nat) : ∀ (i : Nat) (s : Md) (out : List ByteArray), k = i + n → out.length ≤ i → s.1.length < 1000000000 →
    A.lp 90 0 (hd90_0 [.at (.ptr pinN 0 0), .at (.row 2001 0), iv k, iv i] [(pinN, 0, some (bM s)), (2001, 0, some (rSm out))]) =
      some (.exit 0, ex90_0 [.at (.row 2001 0)] [(pinN, 0, some (bM (mdTs n s).2)), (2001, 0, some (rSm (out ++ (mdTs n s).1)))]) := by
  induction n with
  | zero =>
    intro i s out hi ho hs
    rw [lp_run hL Tryz.func90 rfl (by rfl) 0 rfl]
    obtain rfl : i = k := by omega
    simp [mdTs]
  | succ n ih =>
    intro i s out hi ho hs
    have h2 : i < k := by omega
    have hd := mdT_len s
    have ih := ih (i + 1) (mdT s).2 (out ++ [(mdT s).1]) (by omega) (by simp; omega) (by omega)
    have w6 : IntKind.i64.wrap ((i : Int) + 1) = i + 1 := wr _ (by omega) (by omega)
    have hlim := lim_le (n := out.length) (by omega)
    have q1 := mText s hs
    unfold mdTs
    generalize mdT s = r1 at *
    simp at q1
    rw [lp_run hL Tryz.func90 rfl (by rfl) 0 rfl]
    simp [h2, q1, w6, hlim]
    simp [rSm] at ih ⊢
    exact ih
def mdZ (s : Md) : List ByteArray × Md := mdTs (mdC 8 s).1.toNat (mdC 8 s).2
theorem mZone (s : Md) (hs : s.1.length < 1000000000) : A.fn 90 [.at (.ptr pinN 0 0)] [bM s] = some (.one (pv (lS (mdZ s).1)), [some (bM (mdZ s).2)]) := by
  have k := mdC_len 8 s
  have g := mdC_le 8 s (by decide)
  have q := mCount s 8 hs
  unfold mdZ
  generalize mdC 8 s = c at *
  obtain ⟨n, hn⟩ : ∃ n : Nat, c.1 = n := ⟨c.1.toNat, by omega⟩
  have h := mzone_l0 n (by omega) n 0 c.2 [] (by omega) (by simp) (by omega)
  rw [hn] at q ⊢
  rw [Int.toNat_natCast]
  generalize mdTs n c.2 = r at *
  simp at q
  simp [rSm] at h
  rw [fn_run hL Tryz.func90 rfl L90 (by rfl) rfl rfl rfl (by decide)]
  simp [Tryz.f90, q, h]
end Go.E2.S
/-! Readers: msg.reader.item. -/
namespace Go.E2.S
open Go Go.E2 Go.RowKit Go.Proofs
set_option linter.unusedVariables false
set_option linter.unusedSimpArgs false
set_option maxHeartbeats 4000000
set_option maxRecDepth 10000
def mdI (s : Md) : Int × Md := ((getI s.1).1, (getI s.1).2.1, s.2 || !decide ((getI s.1).2.2 = 0))
theorem mdI_len (s : Md) : (mdI s).2.1.length ≤ s.1.length := by
  unfold mdI getI
  split <;> simp
def mdItem (s : Md) : Item × Md :=
  let a := mdT s
  let b := mdT a.2
  let c := mdN b.2
  let d := mdT c.2
  let e := mdI d.2
  let x := mdN e.2
  let y := mdN x.2
  let z := mdN y.2
  (⟨a.1, b.1, c.1, d.1, e.1, ⟨x.1, y.1, z.1⟩⟩, z.2)
theorem mItem (s : Md) (hs : s.1.length < 1000000000) : A.fn 92 [.at (.ptr pinN 0 0)] [bM s] = some (.one (ag (encI (mdItem s).1)), [some (bM (mdItem s).2)]) := by
  unfold mdItem
  simp only
  have k1 := mdT_len s
  have q1 := mText s hs
  generalize mdT s = a at *
  have k2 := mdT_len a.2
  have q2 := mText a.2 (by omega)
  generalize mdT a.2 = b at *
  have k3 := mdN_len b.2
  have q3 := mNum b.2 (by omega)
  generalize mdN b.2 = c at *
  have k4 := mdT_len c.2
  have q4 := mText c.2 (by omega)
  generalize mdT c.2 = d at *
  have k5 := mdI_len d.2
  have q5 := intC d.2.1 (by omega)
  have q5t := mTake d.2 (getI d.2.1).2.1 (getI d.2.1).2.2
  unfold mdI at k5 ⊢
  generalize getI d.2.1 = e at *
  simp only at k5 ⊢
  have k6 := mdN_len (e.2.1, d.2.2 || !decide (e.2.2 = 0))
  have q6 := mNum (e.2.1, d.2.2 || !decide (e.2.2 = 0)) (by simp only; omega)
  generalize mdN (e.2.1, d.2.2 || !decide (e.2.2 = 0)) = x at *
  simp only at k6
  have k7 := mdN_len x.2
  have q7 := mNum x.2 (by omega)
  generalize mdN x.2 = y at *
  have q8 := mNum y.2 (by omega)
  generalize mdN y.2 = z at *
  clear k1 k2 k3 k4 k5 k6 k7
  simp at q1 q2 q3 q4 q5 q5t q6 q7 q8
  rw [fn_run hL Tryz.func92 rfl L92 (by rfl) rfl rfl rfl (by decide)]
  simp [Tryz.f92, q1, q2, q3, q4, q5, q5t, q6, q7, q8]
end Go.E2.S
