/- VPp: VPR, VPS, VPQ, VPT. -/
import Derived.Test.YtiliffhopdiepaaGreatVRa
import Derived.Test.YtiliffhopdiepaaGreatVWa
import Derived.Test.YtiliffhopdiepaaGreatVVa
import Derived.Test.YtiliffhopdiepaaGreatVZa

/-! Plain law: what was written is read, what was read was written: transactions. -/
namespace Go.E2.S
open Go Go.E2 Go.RowKit Go.Proofs
set_option linter.unusedVariables false
set_option linter.unusedSimpArgs false
set_option maxRecDepth 10000
def okN (n : Int) : Prop := 0 ≤ n ∧ n < 72057594037927936
def nb (n : Int) : List UInt8 := numB n.toNat
def tb (s : ByteArray) : List UInt8 := nb s.size ++ bl s
def db (d : Dot) : List UInt8 := nb d.f0 ++ (nb d.f1 ++ nb d.f2)
def eb (e : Eff) : List UInt8 := nb e.f0 ++ (tb e.f1 ++ (tb e.f2 ++ (nb e.f3 ++ (tb e.f4 ++ (intL e.f5 ++ (nb e.f6.length ++ e.f6.flatMap db))))))
def xb (t : Txn) : List UInt8 := nb t.f0 ++ (nb t.f1 ++ (nb t.f2.length ++ (t.f2.flatMap nb ++ (nb t.f3.length ++ t.f3.flatMap eb))))
def GD (d : Dot) : Prop := okN d.f0 ∧ okN d.f1 ∧ okN d.f2
def GE (e : Eff) : Prop := okN e.f0 ∧ e.f1.size ≤ 65536 ∧ e.f2.size ≤ 65536 ∧ okN e.f3 ∧ e.f4.size ≤ 65536 ∧ I64 e.f5 ∧ e.f6.length ≤ 64 ∧ ∀ d ∈ e.f6, GD d
def GT (t : Txn) : Prop := okN t.f0 ∧ okN t.f1 ∧ t.f2.length ≤ 8 ∧ (∀ x ∈ t.f2, okN x) ∧ t.f3.length ≤ 8 ∧ ∀ e ∈ t.f3, GE e
theorem okN_nat {n : Nat} (h : n < 72057594037927936) : okN (n : Int) := ⟨by omega, by omega⟩
theorem putL_ok (b : List UInt8) {n : Int} (h : okN n) : putL b n = b ++ nb n := by
  obtain ⟨h1, h2⟩ := h
  unfold putL badN nb
  rw [if_neg]
  simp
  omega
theorem putT_ok (b : List UInt8) {s : ByteArray} (h : s.size ≤ 65536) : putT b s = b ++ tb s := by
  unfold putT tb nb
  rw [if_neg (by omega), List.append_assoc, Int.toNat_natCast]
theorem puts_ok : ∀ (l : List Int) (b : List UInt8), (∀ x ∈ l, okN x) → l.foldl putL b = b ++ l.flatMap nb
  | [], b, h => by simp
  | x :: l, b, h => by
    rw [List.foldl_cons, putL_ok b (h x (List.mem_cons_self ..)), puts_ok l _ fun y hy => h y (List.mem_cons_of_mem _ hy), List.flatMap_cons, List.append_assoc]
theorem folds_ok {α : Type} {f : List UInt8 → α → List UInt8} {w : α → List UInt8} {G : α → Prop} (hf : ∀ b x, G x → f b x = b ++ w x) : ∀ (l : List α) (b : List UInt8), (∀ x ∈ l, G x) → l.foldl f b = b ++ l.flatMap w
  | [], b, h => by simp
  | x :: l, b, h => by
    rw [List.foldl_cons, hf b x (h x (List.mem_cons_self ..)), folds_ok hf l _ fun y hy => h y (List.mem_cons_of_mem _ hy), List.flatMap_cons, List.append_assoc]
theorem dropB_ok (b : List UInt8) (d : Dot) (h : GD d) : dropB b d = b ++ db d := by
  obtain ⟨h1, h2, h3⟩ := h
  unfold dropB db
  rw [puts_ok _ _ (by simp [h1, h2, h3])]
  simp
theorem effB_ok (b : List UInt8) (e : Eff) (h : GE e) : effB b e = b ++ eb e := by
  obtain ⟨h1, h2, h3, h4, h5, h6, h7, h8⟩ := h
  unfold effB eb
  rw [folds_ok dropB_ok _ _ h8, putL_ok _ (okN_nat (by omega)), putT_ok _ h5, putL_ok _ h4, putT_ok _ h3, putT_ok _ h2, putL_ok _ h1]
  simp only [List.append_assoc]
theorem txnB_ok (b : List UInt8) (t : Txn) (h : GT t) : txnB b t = b ++ xb t := by
  obtain ⟨h1, h2, h3, h4, h5, h6⟩ := h
  have h3' : okN (t.f2.length : Int) := okN_nat (by omega)
  unfold txnB xb
  rw [folds_ok effB_ok _ _ h6, putL_ok _ (okN_nat (by omega)), puts_ok _ _ h4, puts_ok _ _ (by simp [h1, h2, h3'])]
  simp only [List.append_assoc, List.flatMap_cons, List.flatMap_nil, List.append_nil]
/-! ### many -/
def many {α σ : Type} (p : σ → α × σ) : Nat → σ → List α × σ
  | 0, s => ([], s)
  | n + 1, s => ((p s).1 :: (many p n (p s).2).1, (many p n (p s).2).2)
theorem many_len {α σ : Type} (p : σ → α × σ) : ∀ (n : Nat) (s : σ), (many p n s).1.length = n
  | 0, s => rfl
  | n + 1, s => by rw [many, List.length_cons, many_len p n]
theorem many_put {α ε : Type} {p : List UInt8 × ε → α × List UInt8 × ε} {w : α → List UInt8} {G : α → Prop} {e : ε} (hp : ∀ x, G x → ∀ rest, p (w x ++ rest, e) = (x, rest, e)) :
    ∀ (l : List α) (rest : List UInt8), (∀ x ∈ l, G x) → many p l.length (l.flatMap w ++ rest, e) = (l, rest, e)
  | [], rest, h => rfl
  | x :: l, rest, h => by
    rw [List.length_cons, many, List.flatMap_cons, List.append_assoc, hp x (h x (List.mem_cons_self ..))]
    simp only
    rw [many_put hp l rest fun y hy => h y (List.mem_cons_of_mem _ hy)]
theorem many_back {α ε : Type} {ok : ε → Prop} {p : List UInt8 × ε → α × List UInt8 × ε} {w : α → List UInt8} {G : α → Prop} (hp : ∀ s, ok (p s).2.2 → ok s.2 ∧ s.1 = w (p s).1 ++ (p s).2.1 ∧ G (p s).1) :
    ∀ (n : Nat) (s : List UInt8 × ε), ok (many p n s).2.2 → ok s.2 ∧ s.1 = (many p n s).1.flatMap w ++ (many p n s).2.1 ∧ ∀ x ∈ (many p n s).1, G x
  | 0, s, h => ⟨h, by simp [many], by simp [many]⟩
  | n + 1, s, h => by
    rw [many] at h ⊢
    obtain ⟨h1, h2, h3⟩ := many_back hp n _ h
    obtain ⟨k1, k2, k3⟩ := hp s h1
    refine ⟨k1, ?_, ?_⟩
    · rw [k2]
      simp only [List.flatMap_cons, List.append_assoc]
      rw [← h2]
    · intro x hx
      rcases List.mem_cons.1 hx with rfl | hx
      · exact k3
      · exact h3 x hx
theorem rdDs_many : ∀ (n : Nat) (s : Rd), rdDs n s = many rdD n s
  | 0, s => rfl
  | n + 1, s => by rw [rdDs, many, rdDs_many n]
theorem rdNs_many : ∀ (n : Nat) (s : Rd), rdNs n s = many rdN n s
  | 0, s => rfl
  | n + 1, s => by rw [rdNs, many, rdNs_many n]
theorem rdEs_many : ∀ (n : Nat) (s : Rd), rdEs n s = many rdE n s
  | 0, s => rfl
  | n + 1, s => by rw [rdEs, many, rdEs_many n]
/-! ### What was written is read -/
theorem mkS_bl (s : ByteArray) : mkS' (bl s) = s := by
  cases s
  simp [mkS', bl]
theorem bl_mkS (l : List UInt8) : bl (mkS' l) = l := by simp [mkS', bl]
theorem mkS_size (l : List UInt8) : (mkS' l).size = l.length := by rw [← bl_len, bl_mkS]
theorem getNb {n : Int} (h : okN n) (rest : List UInt8) : getN (nb n ++ rest) = (n.toNat, rest, 0) := getN_put _ _ (by obtain ⟨h1, h2⟩ := h; omega)
theorem okN_cast {n : Int} (h : okN n) : ((n.toNat : Nat) : Int) = n := Int.toNat_of_nonneg h.1
theorem getT_put {s : ByteArray} (h : s.size ≤ 65536) (rest : List UInt8) : getT (tb s ++ rest) = (s, rest, 0) := by
  unfold getT tb
  rw [List.append_assoc, getNb (okN_nat (by omega))]
  simp only [Int.toNat_natCast]
  have hl := bl_len s
  rw [if_neg (by simp), if_neg (by omega), if_neg (by rw [List.length_append]; omega), ← hl, List.take_left, List.drop_left, mkS_bl]
theorem rdN_put {n : Int} (h : okN n) (rest : List UInt8) : rdN (nb n ++ rest, 0) = (n, rest, 0) := by
  unfold rdN
  rw [if_pos rfl]
  simp only [getNb h, okN_cast h]
theorem rdT_put {s : ByteArray} (h : s.size ≤ 65536) (rest : List UInt8) : rdT (tb s ++ rest, 0) = (s, rest, 0) := by
  unfold rdT
  rw [if_pos rfl]
  exact getT_put h rest
theorem rdI_put {n : Int} (h : I64 n) (rest : List UInt8) : rdI (intL n ++ rest, 0) = (n, rest, 0) := by
  unfold rdI
  rw [if_pos rfl]
  exact getI_put n rest h
theorem rdC_put {n most : Int} (h : okN n) (h2 : n ≤ most) (rest : List UInt8) : rdC most (nb n ++ rest, 0) = (n, rest, 0) := by
  unfold rdC
  rw [rdN_put h]
  simp only
  rw [if_pos trivial, if_neg (by omega)]
theorem rdD_put (d : Dot) (h : GD d) (rest : List UInt8) : rdD (db d ++ rest, 0) = (d, rest, 0) := by
  obtain ⟨h1, h2, h3⟩ := h
  unfold rdD db
  simp only [List.append_assoc, rdN_put h1, rdN_put h2, rdN_put h3]
theorem rdE_put (e : Eff) (h : GE e) (rest : List UInt8) : rdE (eb e ++ rest, 0) = (e, rest, 0) := by
  obtain ⟨h1, h2, h3, h4, h5, h6, h7, h8⟩ := h
  unfold rdE eb
  have h7' : okN (e.f6.length : Int) := okN_nat (by omega)
  have h9 : (e.f6.length : Int) ≤ 64 := by omega
  simp only [List.append_assoc, rdN_put h1, rdT_put h2, rdT_put h3, rdN_put h4, rdT_put h5, rdI_put h6, rdC_put h7' h9, Int.toNat_natCast, rdDs_many, many_put rdD_put _ _ h8]
theorem rdTx0_put (t : Txn) (h : GT t) (rest : List UInt8) : rdTx0 (xb t ++ rest, 0) = (t, rest, 0) := by
  obtain ⟨h1, h2, h3, h4, h5, h6⟩ := h
  unfold rdTx0 xb
  have h7' : okN (t.f2.length : Int) := okN_nat (by omega)
  have h9 : (t.f2.length : Int) ≤ 8 := by omega
  have h8' : okN (t.f3.length : Int) := okN_nat (by omega)
  have h10 : (t.f3.length : Int) ≤ 8 := by omega
  simp only [List.append_assoc, rdN_put h1, rdN_put h2, rdC_put h7' h9, Int.toNat_natCast, rdNs_many, rdEs_many, many_put (fun x hx => rdN_put (n := x) hx) _ _ h4, rdC_put h8' h10, many_put rdE_put _ _ h6]
/-! ### What was read was written -/
theorem getN_back' {l : List UInt8} (h : (getN l).2.2 = 0) : okN ((getN l).1 : Int) ∧ l = nb ((getN l).1 : Int) ++ (getN l).2.1 := by
  obtain ⟨h1, h2⟩ := getN_back (l := l) (n := (getN l).1) (rest := (getN l).2.1) (by rw [← h])
  exact ⟨okN_nat h1, by unfold nb; rw [Int.toNat_natCast]; exact h2⟩
theorem getT_back {l : List UInt8} (h : (getT l).2.2 = 0) : (getT l).1.size ≤ 65536 ∧ l = tb (getT l).1 ++ (getT l).2.1 := by
  unfold getT at h ⊢
  split at h
  · rename_i c
    exact absurd h c
  · rename_i c
    rw [if_neg c]
    split at h
    · simp at h
    · rename_i c2
      rw [if_neg c2]
      split at h
      · simp at h
      · rename_i c3
        rw [if_neg c3]
        simp only
        obtain ⟨k1, k2⟩ := getN_back' (l := l) (by simpa using c)
        have e : ((getN l).2.1.take (getN l).1).length = (getN l).1 := by rw [List.length_take]; omega
        refine ⟨by rw [mkS_size, e]; omega, ?_⟩
        unfold tb
        rw [mkS_size, e, bl_mkS, List.append_assoc, List.take_append_drop]
        exact k2
theorem valB_mod : ∀ (l : List UInt8) (i : Nat), valB i l = valB 0 l * 2 ^ (8 * i)
  | [], i => by simp [valB]
  | x :: l, i => by
    rw [valB, valB, valB_mod l (i + 1), valB_mod l (0 + 1), Nat.mul_zero, Nat.pow_zero, Nat.mul_one, Nat.add_mul, Nat.mul_assoc (valB 0 l), ← Nat.pow_add]
    congr 3
    omega
theorem valB_inj : ∀ (l m : List UInt8), l.length = m.length → valB 0 l = valB 0 m → l = m
  | [], [], h, e => rfl
  | x :: l, y :: m, h, e => by
    have hx := x.toNat_lt
    have hy := y.toNat_lt
    rw [valB, valB, valB_mod l, valB_mod m] at e
    simp only [Nat.mul_zero, Nat.pow_zero, Nat.mul_one, Nat.zero_add, Nat.reducePow] at e
    have e1 : x.toNat = y.toNat := by omega
    have e2 : valB 0 l = valB 0 m := by omega
    rw [valB_inj l m (by simpa using h) e2, UInt8.toNat_inj.1 e1]
theorem getI_back {l : List UInt8} (h : (getI l).2.2 = 0) : I64 (getI l).1 ∧ l = intL (getI l).1 ++ (getI l).2.1 := by
  unfold getI at h ⊢
  split at h
  · simp at h
  · rename_i c
    rw [if_neg c]
    simp only
    have hv := valB_lt (l.take 8) 0
    have e8 : (l.take 8).length = 8 := by rw [List.length_take]; omega
    rw [e8] at hv
    simp only [Nat.mul_zero, Nat.pow_zero, Nat.zero_add] at hv
    generalize hn : IntKind.i64.wrap ((valB 0 (l.take 8) : Nat) : Int) = n
    have hw := IntKind.wrap_i64 ((valB 0 (l.take 8) : Nat) : Int)
    rw [hn] at hw
    have hI : I64 n := by unfold I64; omega
    refine ⟨hI, ?_⟩
    have k := valB_int n 8 0
    have e : intL n = l.take 8 := by
      refine valB_inj _ _ (by rw [intL_len, e8]) ?_
      unfold intL
      rw [List.range_eq_range', k]
      simp only [Nat.mul_zero, Nat.pow_zero, Nat.mul_one, Nat.div_one]
      omega
    rw [e, List.take_append_drop]
theorem rdN_back (s : Rd) (h : (rdN s).2.2 = 0) : s.2 = 0 ∧ s.1 = nb (rdN s).1 ++ (rdN s).2.1 ∧ okN (rdN s).1 := by
  unfold rdN at h ⊢
  split at h
  · rename_i c
    rw [if_pos c]
    obtain ⟨k1, k2⟩ := getN_back' h
    exact ⟨c, k2, k1⟩
  · rename_i c
    exact absurd h c
theorem rdT_back (s : Rd) (h : (rdT s).2.2 = 0) : s.2 = 0 ∧ s.1 = tb (rdT s).1 ++ (rdT s).2.1 ∧ (rdT s).1.size ≤ 65536 := by
  unfold rdT at h ⊢
  split at h
  · rename_i c
    rw [if_pos c]
    obtain ⟨k1, k2⟩ := getT_back h
    exact ⟨c, k2, k1⟩
  · rename_i c
    exact absurd h c
theorem rdI_back (s : Rd) (h : (rdI s).2.2 = 0) : s.2 = 0 ∧ s.1 = intL (rdI s).1 ++ (rdI s).2.1 ∧ I64 (rdI s).1 := by
  unfold rdI at h ⊢
  split at h
  · rename_i c
    rw [if_pos c]
    obtain ⟨k1, k2⟩ := getI_back h
    exact ⟨c, k2, k1⟩
  · rename_i c
    exact absurd h c
theorem rdC_back (most : Int) (s : Rd) (h : (rdC most s).2.2 = 0) : s.2 = 0 ∧ s.1 = nb (rdC most s).1 ++ (rdC most s).2.1 ∧ okN (rdC most s).1 ∧ (rdC most s).1 ≤ most := by
  unfold rdC at h ⊢
  split at h
  · rename_i c
    rw [if_pos c]
    split at h
    · simp at h
    · rename_i c2
      rw [if_neg c2]
      obtain ⟨k1, k2, k3⟩ := rdN_back s h
      exact ⟨k1, k2, k3, by omega⟩
  · rename_i c
    exact absurd h c
theorem rdD_back (s : Rd) (h : (rdD s).2.2 = 0) : s.2 = 0 ∧ s.1 = db (rdD s).1 ++ (rdD s).2.1 ∧ GD (rdD s).1 := by
  unfold rdD at h ⊢
  simp only at h ⊢
  obtain ⟨a1, a2, a3⟩ := rdN_back _ h
  obtain ⟨b1, b2, b3⟩ := rdN_back _ a1
  obtain ⟨c1, c2, c3⟩ := rdN_back _ b1
  refine ⟨c1, ?_, c3, b3, a3⟩
  unfold db
  simp only [List.append_assoc]
  rw [← a2, ← b2, ← c2]
theorem rdE_back (s : Rd) (h : (rdE s).2.2 = 0) : s.2 = 0 ∧ s.1 = eb (rdE s).1 ++ (rdE s).2.1 ∧ GE (rdE s).1 := by
  unfold rdE at h ⊢
  simp only [rdDs_many] at h ⊢
  obtain ⟨a1, a2, a3⟩ := many_back (ok := (· = 0)) rdD_back _ _ h
  have hl := many_len rdD (rdC 64 (rdI (rdT (rdN (rdT (rdT (rdN s).2).2).2).2).2).2).1.toNat (rdC 64 (rdI (rdT (rdN (rdT (rdT (rdN s).2).2).2).2).2).2).2
  obtain ⟨b1, b2, b3, b4⟩ := rdC_back _ _ a1
  obtain ⟨c1, c2, c3⟩ := rdI_back _ b1
  obtain ⟨d1, d2, d3⟩ := rdT_back _ c1
  obtain ⟨e1, e2, e3⟩ := rdN_back _ d1
  obtain ⟨f1, f2, f3⟩ := rdT_back _ e1
  obtain ⟨g1, g2, g3⟩ := rdT_back _ f1
  obtain ⟨i1, i2, i3⟩ := rdN_back _ g1
  refine ⟨i1, ?_, i3, g3, f3, e3, d3, c3, by simp only; rw [hl]; omega, a3⟩
  unfold eb
  simp only [List.append_assoc, hl, okN_cast b3]
  rw [← a2, ← b2, ← c2, ← d2, ← e2, ← f2, ← g2, ← i2]
theorem rdTx0_back (s : Rd) (h : (rdTx0 s).2.2 = 0) : s.2 = 0 ∧ s.1 = xb (rdTx0 s).1 ++ (rdTx0 s).2.1 ∧ GT (rdTx0 s).1 := by
  unfold rdTx0 at h ⊢
  simp only [rdEs_many, rdNs_many] at h ⊢
  obtain ⟨a1, a2, a3⟩ := many_back (ok := (· = 0)) rdE_back _ _ h
  obtain ⟨b1, b2, b3, b4⟩ := rdC_back _ _ a1
  obtain ⟨c1, c2, c3⟩ := many_back (ok := (· = 0)) rdN_back _ _ b1
  obtain ⟨d1, d2, d3, d4⟩ := rdC_back _ _ c1
  obtain ⟨e1, e2, e3⟩ := rdN_back _ d1
  obtain ⟨f1, f2, f3⟩ := rdN_back _ e1
  refine ⟨f1, ?_, f3, e3, by simp only [many_len]; omega, c3, by simp only [many_len]; omega, a3⟩
  unfold xb
  simp only [List.append_assoc, many_len, okN_cast b3, okN_cast d3]
  rw [← a2, ← b2, ← c2, ← d2, ← e2, ← f2]
end Go.E2.S
/-! Plain law: what was written is read, what was read was written: messages. -/
namespace Go.E2.S
open Go Go.E2 Go.RowKit Go.Proofs
set_option linter.unusedVariables false
set_option linter.unusedSimpArgs false
set_option maxRecDepth 10000
def vb (v : List Int) : List UInt8 := nb v.length ++ v.flatMap nb
def zb (z : List ByteArray) : List UInt8 := nb z.length ++ z.flatMap tb
def ib (x : Item) : List UInt8 := tb x.f0 ++ (tb x.f1 ++ (nb x.f2 ++ (tb x.f3 ++ (intL x.f4 ++ db x.f5))))
def mb (m : Msg) : List UInt8 := nb m.f0 ++ (nb m.f1 ++ (nb (wh m) ++ (vb m.f3 ++ (vb m.f4 ++ (zb m.f5 ++ (zb m.f6 ++ (nb m.f7.length ++ (m.f7.flatMap ib ++ (nb m.f8.length ++ m.f8.flatMap xb)))))))))
def GI (x : Item) : Prop := x.f0.size ≤ 65536 ∧ x.f1.size ≤ 65536 ∧ okN x.f2 ∧ x.f3.size ≤ 65536 ∧ I64 x.f4 ∧ GD x.f5
def GV (v : List Int) : Prop := v.length ≤ 8 ∧ ∀ x ∈ v, okN x
def GZ (z : List ByteArray) : Prop := z.length ≤ 8 ∧ ∀ x ∈ z, x.size ≤ 65536
def GTf (t : Txn) : Prop := GT t ∧ formedT t = true
def GM (m : Msg) : Prop := okN m.f0 ∧ okN m.f1 ∧ GV m.f3 ∧ GV m.f4 ∧ GZ m.f5 ∧ GZ m.f6 ∧ m.f7.length ≤ 32768 ∧ (∀ x ∈ m.f7, GI x) ∧ m.f8.length ≤ 4096 ∧ ∀ t ∈ m.f8, GTf t
def mdTx (s : Md) : Txn × Md := ((rdTx s.1).1, (rdTx s.1).2.1, s.2 || !decide ((rdTx s.1).2.2 = 0))
def mdItems : Nat → Md → List Item × Md
  | 0, s => ([], s)
  | n + 1, s => ((mdItem s).1 :: (mdItems n (mdItem s).2).1, (mdItems n (mdItem s).2).2)
def mdTxs : Nat → Md → List Txn × Md
  | 0, s => ([], s)
  | n + 1, s => ((mdTx s).1 :: (mdTxs n (mdTx s).2).1, (mdTxs n (mdTx s).2).2)
theorem mdItems_many : ∀ (n : Nat) (s : Md), mdItems n s = many mdItem n s
  | 0, s => rfl
  | n + 1, s => by rw [mdItems, many, mdItems_many n]
theorem mdTxs_many : ∀ (n : Nat) (s : Md), mdTxs n s = many mdTx n s
  | 0, s => rfl
  | n + 1, s => by rw [mdTxs, many, mdTxs_many n]
theorem mdNs_many : ∀ (n : Nat) (s : Md), mdNs n s = many mdN n s
  | 0, s => rfl
  | n + 1, s => by rw [mdNs, many, mdNs_many n]
theorem mdTs_many : ∀ (n : Nat) (s : Md), mdTs n s = many mdT n s
  | 0, s => rfl
  | n + 1, s => by rw [mdTs, many, mdTs_many n]
def isOne (n : Int) : Bool := decide (n = 1)
/-- A message's bytes read: it, and what its second number of one bit was; what stands behind it. -/
def mdMsg (s : Md) : (Msg × Int) × Md :=
  let a := mdN s
  let t := mdN a.2
  let w := mdN t.2
  let v := mdV w.2
  let f := mdV v.2
  let z := mdZ f.2
  let k := mdZ z.2
  let c := mdC 32768 k.2
  let i := mdItems c.1.toNat c.2
  let d := mdC 4096 i.2
  let x := mdTxs d.1.toNat d.2
  ((⟨a.1, t.1, isOne w.1, v.1, f.1, z.1, k.1, i.1, x.1⟩, w.1), x.2)
/-! ### What was written is read -/
theorem mdN_put {n : Int} (h : okN n) (rest : List UInt8) : mdN (nb n ++ rest, false) = (n, rest, false) := by
  unfold mdN
  simp [getNb h, okN_cast h]
theorem mdT_put {s : ByteArray} (h : s.size ≤ 65536) (rest : List UInt8) : mdT (tb s ++ rest, false) = (s, rest, false) := by
  unfold mdT
  simp [getT_put h]
theorem mdI_put {n : Int} (h : I64 n) (rest : List UInt8) : mdI (intL n ++ rest, false) = (n, rest, false) := by
  unfold mdI
  simp [getI_put n rest h]
theorem mdC_put {n most : Int} (h : okN n) (h2 : n ≤ most) (rest : List UInt8) (h3 : n ≤ rest.length) : mdC most (nb n ++ rest, false) = (n, rest, false) := by
  unfold mdC badC
  rw [mdN_put h]
  simp only
  rw [if_neg]
  simp
  omega
theorem flat_len {α : Type} {w : α → List UInt8} (hw : ∀ x, 0 < (w x).length) : ∀ l : List α, l.length ≤ (l.flatMap w).length
  | [] => by simp
  | x :: l => by
    have := flat_len hw l
    have := hw x
    simp only [List.flatMap_cons, List.length_append, List.length_cons]
    omega
theorem nb_pos (n : Int) : 0 < (nb n).length := numF_pos 7 n.toNat
theorem tb_pos (s : ByteArray) : 0 < (tb s).length := by
  have := nb_pos s.size
  unfold tb
  rw [List.length_append]
  omega
theorem ib_pos (x : Item) : 0 < (ib x).length := by
  have := tb_pos x.f0
  unfold ib
  rw [List.length_append]
  omega
theorem xb_pos (t : Txn) : 0 < (xb t).length := by
  have := nb_pos t.f0
  unfold xb
  rw [List.length_append]
  omega
theorem mdV_put {v : List Int} (h : GV v) (rest : List UInt8) : mdV (vb v ++ rest, false) = (v, rest, false) := by
  obtain ⟨h1, h2⟩ := h
  have k := flat_len nb_pos v
  unfold mdV vb
  rw [List.append_assoc, mdC_put (okN_nat (by omega)) (by omega) _ (by rw [List.length_append]; omega)]
  simp only [Int.toNat_natCast, mdNs_many]
  exact many_put (fun x hx => mdN_put (n := x) hx) _ _ h2
theorem mdZ_put {z : List ByteArray} (h : GZ z) (rest : List UInt8) : mdZ (zb z ++ rest, false) = (z, rest, false) := by
  obtain ⟨h1, h2⟩ := h
  have k := flat_len tb_pos z
  unfold mdZ zb
  rw [List.append_assoc, mdC_put (okN_nat (by omega)) (by omega) _ (by rw [List.length_append]; omega)]
  simp only [Int.toNat_natCast, mdTs_many]
  exact many_put (fun x hx => mdT_put (s := x) hx) _ _ h2
theorem mdItem_put (x : Item) (h : GI x) (rest : List UInt8) : mdItem (ib x ++ rest, false) = (x, rest, false) := by
  obtain ⟨h1, h2, h3, h4, h5, h6, h7, h8⟩ := h
  unfold mdItem ib db
  simp only [List.append_assoc, mdT_put h1, mdT_put h2, mdN_put h3, mdT_put h4, mdI_put h5, mdN_put h6, mdN_put h7, mdN_put h8]
theorem mdTx_put (t : Txn) (h : GTf t) (rest : List UInt8) : mdTx (xb t ++ rest, false) = (t, rest, false) := by
  obtain ⟨h1, h2⟩ := h
  unfold mdTx rdTx
  simp [rdTx0_put t h1, h2]
theorem okN_wh (m : Msg) : okN (wh m) ∧ decide (wh m = 1) = m.f2 ∧ wh m ≤ 1 := by
  unfold wh
  cases m.f2 <;> simp [okN]
theorem mdMsg_put (m : Msg) (h : GM m) (rest : List UInt8) : mdMsg (mb m ++ rest, false) = ((m, wh m), rest, false) := by
  obtain ⟨h1, h2, h3, h4, h5, h6, h7, h8, h9, h10⟩ := h
  obtain ⟨w1, w2, w3⟩ := okN_wh m
  have k7 := flat_len ib_pos m.f7
  have k9 := flat_len xb_pos m.f8
  have e7 : okN (m.f7.length : Int) := okN_nat (by omega)
  have e9 : okN (m.f8.length : Int) := okN_nat (by omega)
  have l7 : (m.f7.length : Int) ≤ 32768 := by omega
  have l9 : (m.f8.length : Int) ≤ 4096 := by omega
  unfold mdMsg mb isOne
  simp only [List.append_assoc, mdN_put h1, mdN_put h2, mdN_put w1, mdV_put h3, mdV_put h4, mdZ_put h5, mdZ_put h6]
  rw [mdC_put e7 l7 _ (by simp only [List.length_append]; omega)]
  simp only [Int.toNat_natCast, mdItems_many, many_put mdItem_put _ _ h8]
  rw [mdC_put e9 l9 _ (by simp only [List.length_append]; omega)]
  simp only [Int.toNat_natCast, mdTxs_many, many_put mdTx_put _ _ h10, w2]
/-! ### What was read was written -/
theorem orF {a b : Bool} (h : (a || b) = false) : a = false ∧ b = false := by cases a <;> cases b <;> simp_all
theorem mdN_back (s : Md) (h : (mdN s).2.2 = false) : s.2 = false ∧ s.1 = nb (mdN s).1 ++ (mdN s).2.1 ∧ okN (mdN s).1 := by
  unfold mdN at h ⊢
  obtain ⟨h1, h2⟩ := orF h
  obtain ⟨k1, k2⟩ := getN_back' (l := s.1) (by simpa using h2)
  exact ⟨h1, k2, k1⟩
theorem mdT_back (s : Md) (h : (mdT s).2.2 = false) : s.2 = false ∧ s.1 = tb (mdT s).1 ++ (mdT s).2.1 ∧ (mdT s).1.size ≤ 65536 := by
  unfold mdT at h ⊢
  obtain ⟨h1, h2⟩ := orF h
  obtain ⟨k1, k2⟩ := getT_back (l := s.1) (by simpa using h2)
  exact ⟨h1, k2, k1⟩
theorem mdI_back (s : Md) (h : (mdI s).2.2 = false) : s.2 = false ∧ s.1 = intL (mdI s).1 ++ (mdI s).2.1 ∧ I64 (mdI s).1 := by
  unfold mdI at h ⊢
  obtain ⟨h1, h2⟩ := orF h
  obtain ⟨k1, k2⟩ := getI_back (l := s.1) (by simpa using h2)
  exact ⟨h1, k2, k1⟩
theorem mdC_back (most : Int) (s : Md) (h : (mdC most s).2.2 = false) : s.2 = false ∧ s.1 = nb (mdC most s).1 ++ (mdC most s).2.1 ∧ okN (mdC most s).1 ∧ (mdC most s).1 ≤ most := by
  unfold mdC at h ⊢
  split at h
  · simp at h
  · rename_i c
    rw [if_neg c]
    obtain ⟨k1, k2, k3⟩ := mdN_back s h
    refine ⟨k1, k2, k3, ?_⟩
    simp [badC] at c
    omega
theorem mdV_back (s : Md) (h : (mdV s).2.2 = false) : s.2 = false ∧ s.1 = vb (mdV s).1 ++ (mdV s).2.1 ∧ GV (mdV s).1 := by
  unfold mdV at h ⊢
  simp only [mdNs_many] at h ⊢
  obtain ⟨a1, a2, a3⟩ := many_back (ok := (· = false)) mdN_back _ _ h
  obtain ⟨b1, b2, b3, b4⟩ := mdC_back _ _ a1
  refine ⟨b1, ?_, by rw [many_len]; omega, a3⟩
  unfold vb
  simp only [List.append_assoc, many_len, okN_cast b3]
  rw [← a2, ← b2]
theorem mdZ_back (s : Md) (h : (mdZ s).2.2 = false) : s.2 = false ∧ s.1 = zb (mdZ s).1 ++ (mdZ s).2.1 ∧ GZ (mdZ s).1 := by
  unfold mdZ at h ⊢
  simp only [mdTs_many] at h ⊢
  obtain ⟨a1, a2, a3⟩ := many_back (ok := (· = false)) (G := fun x => x.size ≤ 65536) mdT_back _ _ h
  obtain ⟨b1, b2, b3, b4⟩ := mdC_back _ _ a1
  refine ⟨b1, ?_, by rw [many_len]; omega, a3⟩
  unfold zb
  simp only [List.append_assoc, many_len, okN_cast b3]
  rw [← a2, ← b2]
theorem mdItem_back (s : Md) (h : (mdItem s).2.2 = false) : s.2 = false ∧ s.1 = ib (mdItem s).1 ++ (mdItem s).2.1 ∧ GI (mdItem s).1 := by
  unfold mdItem at h ⊢
  simp only at h ⊢
  obtain ⟨a1, a2, a3⟩ := mdN_back _ h
  obtain ⟨b1, b2, b3⟩ := mdN_back _ a1
  obtain ⟨c1, c2, c3⟩ := mdN_back _ b1
  obtain ⟨d1, d2, d3⟩ := mdI_back _ c1
  obtain ⟨e1, e2, e3⟩ := mdT_back _ d1
  obtain ⟨f1, f2, f3⟩ := mdN_back _ e1
  obtain ⟨g1, g2, g3⟩ := mdT_back _ f1
  obtain ⟨i1, i2, i3⟩ := mdT_back _ g1
  refine ⟨i1, ?_, i3, g3, f3, e3, d3, c3, b3, a3⟩
  unfold ib db
  simp only [List.append_assoc]
  rw [← a2, ← b2, ← c2, ← d2, ← e2, ← f2, ← g2, ← i2]
theorem mdTx_back (s : Md) (h : (mdTx s).2.2 = false) : s.2 = false ∧ s.1 = xb (mdTx s).1 ++ (mdTx s).2.1 ∧ GTf (mdTx s).1 := by
  unfold mdTx at h ⊢
  obtain ⟨h1, h2⟩ := orF h
  simp only [Bool.not_eq_false', decide_eq_true_eq] at h2
  simp only
  unfold rdTx at h2 ⊢
  split at h2
  · rename_i c
    rw [if_pos c]
    split at h2
    · rename_i c2
      rw [if_pos c2]
      obtain ⟨k1, k2, k3⟩ := rdTx0_back (s.1, 0) c
      exact ⟨h1, k2, k3, c2⟩
    · simp at h2
  · rename_i c
    exact absurd h2 c
theorem mdMsg_back (s : Md) (h : (mdMsg s).2.2 = false) (hw : ¬ 1 < (mdMsg s).1.2) : s.2 = false ∧ s.1 = mb (mdMsg s).1.1 ++ (mdMsg s).2.1 ∧ GM (mdMsg s).1.1 ∧ (mdMsg s).1.2 = wh (mdMsg s).1.1 := by
  unfold mdMsg isOne at *
  simp only [mdItems_many, mdTxs_many] at h hw ⊢
  obtain ⟨a1, a2, a3⟩ := many_back (ok := (· = false)) mdTx_back _ _ h
  obtain ⟨b1, b2, b3, b4⟩ := mdC_back _ _ a1
  obtain ⟨c1, c2, c3⟩ := many_back (ok := (· = false)) mdItem_back _ _ b1
  obtain ⟨d1, d2, d3, d4⟩ := mdC_back _ _ c1
  obtain ⟨e1, e2, e3⟩ := mdZ_back _ d1
  obtain ⟨f1, f2, f3⟩ := mdZ_back _ e1
  obtain ⟨g1, g2, g3⟩ := mdV_back _ f1
  obtain ⟨i1, i2, i3⟩ := mdV_back _ g1
  obtain ⟨j1, j2, j3⟩ := mdN_back _ i1
  obtain ⟨k1, k2, k3⟩ := mdN_back _ j1
  obtain ⟨l1, l2, l3⟩ := mdN_back _ k1
  have ew : (if (mdN (mdN (mdN s).2).2).1 = 1 then (1 : Int) else 0) = (mdN (mdN (mdN s).2).2).1 := by
    have := j3.1
    split <;> omega
  refine ⟨l1, ?_, ⟨l3, k3, i3, g3, f3, e3, by simp only [many_len]; omega, c3, by simp only [many_len]; omega, a3⟩, ?_⟩
  · unfold mb wh
    simp only [List.append_assoc, many_len, okN_cast b3, okN_cast d3, decide_eq_true_eq, ew]
    rw [← a2, ← b2, ← c2, ← d2, ← e2, ← f2, ← g2, ← i2, ← j2, ← k2, ← l2]
  · unfold wh
    simp only [decide_eq_true_eq, ew]
/-! ### The reading -/
def msg0 : Msg := ⟨0, 0, false, [], [], [], [], [], []⟩
def readM (b : List UInt8) : Msg × Int :=
  if ((mdMsg (b, false)).2.2 || decide (1 < (mdMsg (b, false)).1.2) || decide (0 < (mdMsg (b, false)).2.1.length) || !formedM (mdMsg (b, false)).1.1) = true then (msg0, 2) else ((mdMsg (b, false)).1.1, 0)
theorem readM_put (m : Msg) (h : GM m) (hf : formedM m = true) : readM (mb m) = (m, 0) := by
  have k := mdMsg_put m h []
  rw [List.append_nil] at k
  obtain ⟨w1, w2, w3⟩ := okN_wh m
  unfold readM
  rw [k]
  simp [hf]
  omega
theorem readM_cases (b : List UInt8) : readM b = (msg0, 2) ∨ ∃ m, readM b = (m, 0) ∧ GM m ∧ formedM m = true ∧ b = mb m := by
  unfold readM
  split
  · exact .inl rfl
  · rename_i c
    simp only [Bool.not_eq_true, Bool.or_eq_false_iff, decide_eq_false_iff_not, Bool.not_eq_false'] at c
    obtain ⟨⟨⟨c1, c2⟩, c3⟩, c4⟩ := c
    obtain ⟨k1, k2, k3, k4⟩ := mdMsg_back _ c1 c2
    refine .inr ⟨_, rfl, k3, c4, ?_⟩
    have e : (mdMsg (b, false)).2.1 = [] := List.eq_nil_of_length_eq_zero (by omega)
    rw [e, List.append_nil] at k2
    exact k2
def failM (r : (Msg × Int) × Md) : Bool := r.2.2 || decide (1 < r.1.2) || decide (0 < r.2.1.length) || !formedM r.1.1
def readR (r : (Msg × Int) × Md) : Msg × Int := match failM r with
  | true => (msg0, 2)
  | false => (r.1.1, 0)
theorem readM_R (b : List UInt8) : readM b = readR (mdMsg (b, false)) := by
  unfold readM readR failM
  split
  · rename_i h
    rw [h]
  · rename_i h
    rw [Bool.not_eq_true] at h
    rw [h]
/-- What has a message's bytes as its beginning, and is longer, is none. -/
theorem readM_more (m : Msg) (h : GM m) (y : List UInt8) (hy : y ≠ []) : readM (mb m ++ y) = (msg0, 2) := by
  have k := mdMsg_put m h y
  unfold readM
  rw [k]
  have : 0 < y.length := List.length_pos_iff.2 hy
  rw [if_pos]
  simp [this]
theorem readM_less (m : Msg) (h : GM m) (x y : List UInt8) (hy : y ≠ []) (e : mb m = x ++ y) : readM x = (msg0, 2) := by
  rcases readM_cases x with c | ⟨n, c1, c2, c3, c4⟩
  · exact c
  · exfalso
    have k := mdMsg_put m h []
    rw [List.append_nil, e, c4, mdMsg_put n c2 y] at k
    simp at k
    exact hy k.2
theorem mb_inj {m n : Msg} (h : GM m) (h' : GM n) (e : mb m = mb n) : m = n := by
  have k := mdMsg_put m h []
  rw [e, mdMsg_put n h' []] at k
  simp at k
  exact k.1.symm
end Go.E2.S
/-! Plain law: what is formed is small. -/
namespace Go.E2.S
open Go Go.E2 Go.RowKit Go.Proofs
set_option linter.unusedVariables false
set_option linter.unusedSimpArgs false
set_option maxRecDepth 10000
theorem pos0_pos (x : Int) : 0 ≤ pos0 x := by unfold pos0; split <;> omega
theorem trim_pos {v : List Int} (h : trimV v = v) : ∀ x ∈ v, 0 ≤ x := by
  rw [← h]
  intro x hx
  unfold trimV at hx
  obtain ⟨y, _, rfl⟩ := List.mem_map.1 hx
  exact pos0_pos y
theorem okDot_iff (d : Dot) : okDot d = true ↔ (0 ≤ d.f0 ∧ d.f0 ≤ 7) ∧ (1 ≤ d.f1 ∧ d.f1 ≤ 1073741824) ∧ (0 ≤ d.f2 ∧ d.f2 ≤ 7) := by
  simp [okDot, rngB]
theorem okDot_G {d : Dot} (h : okDot d = true) : GD d := by
  obtain ⟨h1, h2, h3⟩ := (okDot_iff d).1 h
  unfold GD okN
  omega
theorem keyB_sm {s : ByteArray} (h : keyB s = true) : s.size ≤ 16 ∧ 0 < s.size := by
  unfold keyB pfx at h
  simp only [Bool.and_eq_true, decide_eq_true_eq] at h
  omega
theorem pfx_sm {s : ByteArray} (h : pfx s = true) : s.size ≤ 16 := by
  unfold pfx at h
  simp only [Bool.and_eq_true, decide_eq_true_eq] at h
  omega
theorem formedI_sm {x : Item} (h : formedI x = true) : x.f0.size ≤ 16 ∧ x.f1.size ≤ 16 ∧ x.f3.size ≤ 32 ∧ 1 ≤ x.f2 ∧ x.f2 ≤ 3 ∧ okDot x.f5 = true := by
  unfold formedI at h
  simp only [Bool.and_eq_true, decide_eq_true_eq] at h
  obtain ⟨h1, h2, h3, h4, h5, h6, h7⟩ := h
  refine ⟨(keyB_sm h1).1, pfx_sm h2, h3, ?_, ?_, by simp [okDot, h5, h6, h7]⟩ <;> (simp [kindB] at h4; omega)
theorem upD_all {l : List Dot} (h : allN (upD l) 0 l.length = true) : ∀ d ∈ l, okDot d = true := by
  intro d hd
  obtain ⟨j, hj, rfl⟩ := List.getElem_of_mem hd
  have k := (allN_iff _ _ _).1 h j (by omega) (by omega)
  unfold upD at k
  rw [dAt_eq l j hj] at k
  simp only [Bool.and_eq_true] at k
  exact k.1
theorem formedE_sm {node seq : Int} {e : Eff} (h : formedE node seq e = true) :
    e.f1.size ≤ 16 ∧ e.f2.size ≤ 16 ∧ e.f4.size ≤ 32 ∧ 0 ≤ e.f0 ∧ e.f0 ≤ 7 ∧ 0 ≤ e.f3 ∧ e.f3 ≤ 3 ∧ e.f6.length ≤ 64 ∧ ∀ d ∈ e.f6, okDot d = true := by
  unfold formedE at h
  simp only [Bool.and_eq_true, decide_eq_true_eq] at h
  obtain ⟨h1, h2, h3⟩ := h
  have h4 := upD_all h2
  split at h3
  · rename_i c
    simp only [Bool.and_eq_true, decide_eq_true_eq] at h3
    obtain ⟨k1, k2, k3, k4, k5, k6⟩ := formedI_sm h3.1
    have k7 := (okDot_iff _).1 k6
    simp only at k1 k2 k3 k7
    exact ⟨k1, k2, k3, by omega, by omega, by omega, by omega, h1, h4⟩
  · rename_i c
    obtain ⟨k1, k2, k3, k4, k5, k6⟩ := formedI_sm h3
    have k7 := (okDot_iff _).1 k6
    simp only [madeE] at k1 k2 k3 k4 k5 k7
    exact ⟨k1, k2, k3, by omega, by omega, by omega, by omega, h1, h4⟩
theorem rightE_all {node seq : Int} {l : List Eff} (h : rightE node seq l = true) : ∀ e ∈ l, formedE node seq e = true := by
  intro e he
  obtain ⟨j, hj, rfl⟩ := List.getElem_of_mem he
  have k := (allN_iff _ _ _).1 h j (by omega) (by omega)
  unfold rightN at k
  rw [eAt_eq l j hj] at k
  simp only [Bool.and_eq_true] at k
  exact k.1
theorem big_le {v : List Int} (h : v.any big = false) : ∀ x ∈ v, x ≤ 1073741824 := by
  intro x hx
  have := List.any_eq_false.1 h x hx
  simp [big] at this
  exact this
/-- What a formed transaction is. -/
theorem formedT_parts {t : Txn} (h : formedT t = true) : (0 ≤ t.f0 ∧ t.f0 < 8) ∧ (1 ≤ t.f1 ∧ t.f1 ≤ 1073741824) ∧ t.f2.length ≤ 8 ∧ t.f3.length ≤ 8 ∧ trimV t.f2 = t.f2 ∧ atV t.f2 t.f0 = t.f1 - 1 ∧
    (∀ x ∈ t.f2, 0 ≤ x ∧ x ≤ 1073741824) ∧ rightE t.f0 t.f1 t.f3 = true ∧ heardE t.f3 t.f0 t.f1 t.f2 = true := by
  unfold formedT at h
  simp only [Bool.and_eq_true, Bool.not_eq_true', Bool.or_eq_false_iff, decide_eq_false_iff_not, decide_eq_true_eq] at h
  obtain ⟨⟨⟨⟨⟨⟨a1, a2⟩, a3⟩, a4⟩, a5⟩, a6⟩, ⟨⟨b1, b2⟩, b3⟩, b4, b5⟩ := h
  exact ⟨by omega, by omega, by omega, by omega, b1, b2, fun x hx => ⟨trim_pos b1 x hx, big_le b3 x hx⟩, b4, b5⟩
/-- Numbers such as Go's types have. -/
def WfE (e : Eff) : Prop := I64 e.f5
def WfX (t : Txn) : Prop := ∀ e ∈ t.f3, WfE e
theorem formedT_SmT {t : Txn} (h : formedT t = true) : SmT t := by
  obtain ⟨h1, h2, h3, h4, h5, h6, h7, h8, h9⟩ := formedT_parts h
  refine ⟨h3, h4, fun e he => ?_⟩
  obtain ⟨k1, k2, k3, k4, k5, k6, k7, k8, k9⟩ := formedE_sm (rightE_all h8 e he)
  exact ⟨k1, k2, k3, k8⟩
theorem formedT_GT {t : Txn} (h : formedT t = true) (hw : WfX t) : GT t := by
  obtain ⟨h1, h2, h3, h4, h5, h6, h7, h8, h9⟩ := formedT_parts h
  refine ⟨⟨by omega, by omega⟩, ⟨by omega, by omega⟩, h3, fun x hx => ?_, h4, fun e he => ?_⟩
  · have := h7 x hx
    exact ⟨by omega, by omega⟩
  · obtain ⟨k1, k2, k3, k4, k5, k6, k7, k8, k9⟩ := formedE_sm (rightE_all h8 e he)
    exact ⟨⟨by omega, by omega⟩, by omega, by omega, ⟨by omega, by omega⟩, by omega, hw e he, k8, fun d hd => okDot_G (k9 d hd)⟩
theorem formedT_wf {t : Txn} (h : formedT t = true) : WfT t := by
  intro e he
  have := (formedT_SmT h).2.2 e he
  unfold SmE at this
  omega
/-! ### Messages -/
def WfMi (m : Msg) : Prop := (∀ x ∈ m.f7, I64 x.f4) ∧ ∀ t ∈ m.f8, WfX t
theorem zoneN_sm {l : List ByteArray} (h : (zoneN l).2 = 0) : (zoneN l).1.length ≤ 8 := by
  unfold zoneN at h ⊢
  split at h
  · rename_i c
    rw [if_pos c]
    split at h
    · simp at h
    · rename_i c2
      rw [if_neg c2]
      simp only
      omega
  · simp at h
theorem stepZ_mem : ∀ (l out : List ByteArray) (x : ByteArray), x ∈ l.foldl stepZ out → x ∈ out ∨ x ∈ l
  | [], out, x, h => .inl h
  | p :: l, out, x, h => by
    rw [List.foldl_cons] at h
    rcases stepZ_mem l _ x h with h | h
    · unfold stepZ at h
      split at h
      · rcases List.mem_append.1 h with h | h
        · exact .inl h
        · rw [List.mem_singleton] at h
          exact .inr (by rw [h]; exact List.mem_cons_self ..)
      · split at h
        · exact .inl h
        · rcases List.mem_append.1 h with h | h
          · exact .inl h
          · rw [List.mem_singleton] at h
            exact .inr (by rw [h]; exact List.mem_cons_self ..)
    · exact .inr (List.mem_cons_of_mem _ h)
theorem rightZ_parts {z : List ByteArray} (h : rightZ z = true) : z.length ≤ 8 ∧ ∀ x ∈ z, pfx x = true := by
  unfold rightZ at h
  simp only [Bool.and_eq_true, decide_eq_true_eq] at h
  obtain ⟨h1, h2⟩ := h
  have k := zoneN_sm h1
  rw [h2] at k
  refine ⟨k, fun x hx => ?_⟩
  unfold zoneN at h1 h2
  split at h1
  · rename_i c
    rw [if_pos c] at h2
    split at h1
    · simp at h1
    · rename_i c2
      rw [if_neg c2] at h2
      simp only at h2
      rw [← h2] at hx
      rcases stepZ_mem _ _ _ hx with q | q
      · cases q
      · exact List.all_eq_true.1 c x q
  · simp at h1
theorem heardV_parts {v : List Int} (h : heardV v = true) : v.length ≤ 8 ∧ trimV v = v ∧ ∀ x ∈ v, 0 ≤ x ∧ x ≤ 1073741824 := by
  unfold heardV at h
  simp only [Bool.and_eq_true, Bool.not_eq_true', decide_eq_true_eq] at h
  obtain ⟨h1, h2, h3⟩ := h
  exact ⟨h1, h2, fun x hx => ⟨trim_pos h2 x hx, big_le h3 x hx⟩⟩
theorem bare_kind {m : Msg} (h : bareM m = true) : 1 ≤ m.f0 ∧ m.f0 ≤ 6 := by
  unfold bareM at h
  simp only [Bool.and_eq_true, Bool.or_eq_true, decide_eq_true_eq] at h
  have := h.1
  omega
theorem formedM_parts {m : Msg} (h : formedM m = true) : bareM m = true ∧ (0 ≤ m.f1 ∧ m.f1 ≤ 1073741824) ∧ heardV m.f3 = true ∧ heardV m.f4 = true ∧ rightZ m.f5 = true ∧ rightZ m.f6 = true ∧ m.f7.length ≤ 32768 ∧ m.f8.length ≤ 4096 ∧
    normL m.f7 = m.f7 ∧ (∀ x ∈ m.f7, formedI x = true ∧ coversL m.f6 x.f0 = true ∧ hasV m.f3 x.f5 = true) ∧ (∀ t ∈ m.f8, formedT t = true ∧ (m.f0 = 4 → ∀ e ∈ t.f3, coversL m.f6 e.f1 = true)) ∧ (m.f0 = 4 → reachM m.f4 m.f3 m.f8 = true) := by
  unfold formedM headM at h
  simp only [Bool.and_eq_true, Bool.not_eq_true', Bool.or_eq_true, decide_eq_false_iff_not, decide_eq_true_eq, List.all_eq_true] at h
  obtain ⟨⟨a1, a2, a3, a4, a5, a6, a7, a8, a9⟩, b1, b2, b3, b4⟩ := h
  refine ⟨a1, by omega, a4, a5, a6, a7, by omega, by omega, b1, fun x hx => ?_, fun t ht => ?_, fun e => ?_⟩
  · have := b2 x hx
    unfold okI at this
    simp only [Bool.and_eq_true] at this
    exact this
  · have := b3 t ht
    unfold okT at this
    simp only [Bool.and_eq_true, Bool.not_eq_true', Bool.and_eq_false_iff, decide_eq_false_iff_not] at this
    refine ⟨this.1, fun e x hx => ?_⟩
    rcases this.2 with q | q
    · exact absurd e q
    · have := List.any_eq_false.1 q x hx
      simpa using this
  · rcases b4 with q | q
    · exact absurd e q
    · exact q
theorem formedM_Sm {m : Msg} (h : formedM m = true) : SmM m := by
  obtain ⟨h1, h2, h3, h4, h5, h6, h7, h8, h9, h10, h11, h12⟩ := formedM_parts h
  refine ⟨(heardV_parts h3).1, (heardV_parts h4).1, (rightZ_parts h5).1, (rightZ_parts h6).1, h7, h8, fun x hx => ?_, fun t ht => formedT_SmT (h11 t ht).1, fun t ht => (h11 t ht).1⟩
  obtain ⟨k1, k2, k3, k4, k5, k6⟩ := formedI_sm (h10 x hx).1
  exact ⟨k1, k2, k3⟩
theorem formedM_wf {m : Msg} (h : formedM m = true) : WfM m := fun t ht => formedT_wf ((formedM_parts h).2.2.2.2.2.2.2.2.2.2.1 t ht).1
theorem formedM_GM {m : Msg} (h : formedM m = true) (hw : WfMi m) : GM m := by
  obtain ⟨h1, h2, h3, h4, h5, h6, h7, h8, h9, h10, h11, h12⟩ := formedM_parts h
  obtain ⟨a1, a2, a3⟩ := heardV_parts h3
  obtain ⟨b1, b2, b3⟩ := heardV_parts h4
  obtain ⟨c1, c2⟩ := rightZ_parts h5
  obtain ⟨d1, d2⟩ := rightZ_parts h6
  have hk := bare_kind h1
  refine ⟨⟨by omega, by omega⟩, ⟨by omega, by omega⟩, ⟨a1, fun x hx => ?_⟩, ⟨b1, fun x hx => ?_⟩, ⟨c1, fun x hx => ?_⟩, ⟨d1, fun x hx => ?_⟩, h7, fun x hx => ?_, h8, fun t ht => ⟨formedT_GT (h11 t ht).1 (hw.2 t ht), (h11 t ht).1⟩⟩
  · have := a3 x hx
    exact ⟨by omega, by omega⟩
  · have := b3 x hx
    exact ⟨by omega, by omega⟩
  · have := pfx_sm (c2 x hx)
    omega
  · have := pfx_sm (d2 x hx)
    omega
  · obtain ⟨k1, k2, k3, k4, k5, k6⟩ := formedI_sm (h10 x hx).1
    exact ⟨by omega, by omega, ⟨by omega, by omega⟩, by omega, hw.1 x hx, okDot_G k6⟩
/-- The bytes that are written. -/
theorem items_ok (b : List UInt8) (x : Item) (h : GI x) : itemB b x = b ++ ib x := by
  obtain ⟨h1, h2, h3, h4, h5, h6, h7, h8⟩ := h
  unfold itemB ib db
  rw [puts_ok _ _ (by simp [h6, h7, h8]), putT_ok _ h4, putL_ok _ h3, putT_ok _ h2, putT_ok _ h1]
  simp only [List.append_assoc, List.flatMap_cons, List.flatMap_nil, List.append_nil]
theorem wV_ok (b : List UInt8) {v : List Int} (h : GV v) : wV b v = b ++ vb v := by
  obtain ⟨h1, h2⟩ := h
  unfold wV vb
  rw [puts_ok _ _ h2, putL_ok _ (okN_nat (by omega)), List.append_assoc]
theorem wZ_ok (b : List UInt8) {v : List ByteArray} (h : GZ v) : wZ b v = b ++ zb v := by
  obtain ⟨h1, h2⟩ := h
  unfold wZ zb
  rw [folds_ok (fun b x hx => putT_ok b (s := x) hx) _ _ h2, putL_ok _ (okN_nat (by omega)), List.append_assoc]
theorem msgB_ok {m : Msg} (h : GM m) : msgB m = mb m := by
  obtain ⟨h1, h2, h3, h4, h5, h6, h7, h8, h9, h10⟩ := h
  obtain ⟨w1, w2, w3⟩ := okN_wh m
  unfold msgB headB mb
  rw [folds_ok (fun b t ht => txnB_ok b t ht) _ _ fun t ht => (h10 t ht).1, putL_ok _ (okN_nat (by omega)), folds_ok items_ok _ _ h8, putL_ok _ (okN_nat (by omega)), wZ_ok _ h6, wZ_ok _ h5, wV_ok _ h4, wV_ok _ h3, puts_ok _ _ (by simp [h1, h2, w1])]
  simp only [List.append_assoc, List.flatMap_cons, List.flatMap_nil, List.append_nil, List.nil_append]
end Go.E2.S
/-! Plain law: transactions one behind the other; the message of the fixed answer; what a Push or a Delta says. -/
namespace Go.E2.S
open Go Go.E2 Go.RowKit Go.Proofs
set_option linter.unusedVariables false
set_option linter.unusedSimpArgs false
set_option maxRecDepth 10000
theorem bad_formed {t : Txn} (h : formedT t = true) : badW t.f0 t.f1 = false := by
  obtain ⟨h1, h2, _⟩ := formedT_parts h
  unfold badW
  simp only [Bool.or_eq_false_iff, decide_eq_false_iff_not]
  omega
theorem atV_next (v : List Int) (t : Txn) (h : badW t.f0 t.f1 = false) (n : Int) : atV (nextV v t) n = if n = t.f0 then t.f1 else atV v n := by
  unfold nextV
  rw [h, if_neg (by simp)]
  exact atV_with h n
theorem can_next (v : List Int) (t : Txn) : CanV (nextV v t) := by
  unfold nextV
  split
  · exact can_trim v
  · exact can_with v _ _
theorem readyT_iff {v : List Int} {t : Txn} : readyT v t = true ↔ 1 ≤ t.f1 ∧ t.f1 - 1 = atV v t.f0 ∧ withinV t.f2 v = true := by
  unfold readyT
  simp only [Bool.and_eq_true, decide_eq_true_eq]
theorem next_mono {v : List Int} {t : Txn} (h : readyT v t = true) (n : Int) : atV v n ≤ atV (nextV v t) n := by
  cases hb : badW t.f0 t.f1 with
  | true =>
    unfold nextV
    rw [hb, if_pos rfl, atV_trim]
    exact Int.le_refl _
  | false =>
    rw [atV_next v t hb]
    obtain ⟨h1, h2, h3⟩ := readyT_iff.1 h
    split
    · rename_i c
      rw [c]
      omega
    · exact Int.le_refl _
theorem nexts_mono : ∀ (l : List Txn) (v : List Int), chainT v l = true → ∀ n, atV v n ≤ atV (nextsV v l) n
  | [], v, h, n => Int.le_refl _
  | t :: l, v, h, n => by
    rw [chainT, Bool.and_eq_true] at h
    exact Int.le_trans (next_mono h.1 n) (nexts_mono l _ h.2 n)
theorem chain_has : ∀ (l : List Txn) (v : List Int), chainT v l = true → (∀ t ∈ l, formedT t = true) → ∀ t ∈ l, atV v t.f0 < t.f1 ∧ t.f1 ≤ atV (nextsV v l) t.f0
  | [], v, h, hf, t, ht => by cases ht
  | x :: l, v, h, hf, t, ht => by
    rw [chainT, Bool.and_eq_true] at h
    have hb := bad_formed (hf x (List.mem_cons_self ..))
    obtain ⟨h1, h2, h3⟩ := readyT_iff.1 h.1
    rcases List.mem_cons.1 ht with rfl | ht
    · have k := nexts_mono l _ h.2 t.f0
      rw [atV_next v t hb, if_pos rfl] at k
      exact ⟨by omega, k⟩
    · obtain ⟨k1, k2⟩ := chain_has l _ h.2 (fun y hy => hf y (List.mem_cons_of_mem _ hy)) t ht
      have k3 := next_mono h.1 t.f0
      exact ⟨by omega, k2⟩
theorem reach_iff {a b : List Int} {l : List Txn} : reachM a b l = true ↔ chainT a l = true ∧ nextsV a l = b := by
  unfold reachM
  rw [Bool.and_eq_true, decide_eq_true_iff]
theorem bare_push {m : Msg} (h : bareM m = true) (hk : m.f0 = 3) : m.f8 = [] := by
  unfold bareM at h
  rw [hk] at h
  simp at h
  exact h.2.2.2
theorem bare_delta {m : Msg} (h : bareM m = true) (hk : m.f0 = 4) : m.f7 = [] := by
  unfold bareM at h
  rw [hk] at h
  simp at h
  exact h.2.2
/-- What a formed Push or Delta says. -/
theorem says_items {m : Msg} (h : formedM m = true) : ∀ x ∈ m.f7, coversL m.f6 x.f0 = true ∧ hasV m.f3 x.f5 = true := fun x hx =>
  ((formedM_parts h).2.2.2.2.2.2.2.2.2.1 x hx).2
theorem says_txns {m : Msg} (h : formedM m = true) (hk : m.f0 = 3 ∨ m.f0 = 4) : ∀ t ∈ m.f8, hasV m.f3 ⟨t.f0, t.f1, 0⟩ = true ∧ hasV m.f4 ⟨t.f0, t.f1, 0⟩ = false ∧ ∀ e ∈ t.f3, coversL m.f6 e.f1 = true := by
  obtain ⟨h1, h2, h3, h4, h5, h6, h7, h8, h9, h10, h11, h12⟩ := formedM_parts h
  intro t ht
  rcases hk with hk | hk
  · rw [bare_push h1 hk] at ht
    cases ht
  · obtain ⟨k1, k2⟩ := h11 t ht
    obtain ⟨c1, c2⟩ := reach_iff.1 (h12 hk)
    obtain ⟨d1, d2⟩ := chain_has m.f8 m.f4 c1 (fun t ht => (h11 t ht).1) t ht
    rw [c2] at d2
    obtain ⟨p1, p2, _⟩ := formedT_parts k1
    refine ⟨?_, ?_, k2 hk⟩
    · unfold hasV
      simp only [Bool.and_eq_true, decide_eq_true_eq]
      omega
    · unfold hasV
      simp only [Bool.and_eq_false_iff, decide_eq_false_iff_not]
      omega
/-! ### The fixed answer -/
def askM : Msg := ⟨5, 0, false, [1, 0, 2], [], [], [], [], []⟩
theorem onceL_nil : onceL [] = [] := onceL_self List.Pairwise.nil
theorem mins_nil : mins [] = [] := mins_of List.Pairwise.nil fun p hp => by cases hp
theorem right_nil : rightZ [] = true := rightZ_iff.2 ⟨fun p hp => (by cases hp), mins_nil, by decide⟩
theorem ask_formed (v : List Int) (hv : heardV v = true) : formedM ⟨5, 0, false, v, [], [], [], [], []⟩ = true := by
  have hn : normL [] = [] := by
    have := normL_len []
    exact List.eq_nil_of_length_eq_zero (by simpa using this)
  have h2 : heardV [] = true := by decide
  have hb : bareM ⟨5, 0, false, v, [], [], [], [], []⟩ = true := by simp [bareM]
  unfold formedM headM
  simp [hb, hv, h2, right_nil, hn]
theorem askM_formed : formedM askM = true := ask_formed _ (by decide)
theorem askM_bytes : mb askM = [5, 0, 0, 3, 1, 0, 2, 0, 0, 0, 0, 0] := by decide
theorem askM_wf : WfMi askM := ⟨fun x hx => (by cases hx), fun x hx => (by cases hx)⟩
theorem askM_read : readM [5, 0, 0, 3, 1, 0, 2, 0, 0, 0, 0, 0] = (askM, 0) := by
  rw [← askM_bytes]
  exact readM_put askM (formedM_GM askM_formed askM_wf) askM_formed
/-- A message written, or refused. -/
def putM (m : Msg) : List UInt8 × Int := if formedM m = true then (mb m, 0) else ([], 2)
end Go.E2.S
