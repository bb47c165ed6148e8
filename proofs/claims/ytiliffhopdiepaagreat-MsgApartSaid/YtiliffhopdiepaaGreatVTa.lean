/- VTa: VT1, VT2, VFW. -/
import Derived.Test.YtiliffhopdiepaaGreatVMb
import Derived.Test.YtiliffhopdiepaaGreatVVa
/-! Transactions: eff.Heard, txn.Formed; order.Ready, Next, Chain. -/
namespace Go.E2.S
open Go Go.E2 Go.RowKit Go.Proofs
set_option linter.unusedVariables false
set_option linter.unusedSimpArgs false
set_option maxHeartbeats 4000000
set_option maxRecDepth 10000
structure Txn where
  f0 : Int
  f1 : Int
  f2 : List Int
  f3 : List Eff
  deriving DecidableEq
abbrev encT (t : Txn) : List PV := [.int .i64 t.f0, .int .i64 t.f1, lZ t.f2, lE t.f3]
abbrev lT (l : List Txn) : PV := .list 4 (l.map encT)
def okH (node seq : Int) (v : List Int) (d : Dot) : Bool := hasV v d || (decide (d.f0 = node) && decide (d.f1 = seq))
def heardE (l : List Eff) (node seq : Int) (v : List Int) : Bool := l.all fun e => e.f6.all (okH node seq v)
theorem heard_l2 (l : List Eff) (node seq : Int) (v : List Int) (j : Nat) (ds : List Dot) (hd : ds.length < 1000000) (n : Nat) : ∀ i : Nat, ds.length = i + n →
    A.lp 149 2 (hd149_2 [iv node, iv seq, pv (lZ v), pv (lE l), iv l.length, iv j, pv (lD ds), iv ds.length, iv i] []) =
      some (if (ds.drop i).all (okH node seq v) = true then (.exit 2, ex149_2 [iv node, iv seq, pv (lZ v), nov, pv (lE l), iv l.length, iv j] []) else (.ret, ex149_2 [iv node, iv seq, pv (lZ v), bv false, pv (lE l), iv l.length, iv j] [])) := by
  induction n with
  | zero =>
    intro i hi
    rw [lp_run hL Tryz.func149 rfl (by rfl) 2 rfl]
    obtain rfl : i = ds.length := by omega
    simp
  | succ n ih =>
    intro i hi
    have h1 : i < ds.length := by omega
    have ih := ih (i + 1) (by omega)
    have q := vecHas v ds[i]
    have w6 : IntKind.i64.wrap ((i : Int) + 1) = i + 1 := wr _ (by omega) (by omega)
    rw [List.drop_eq_getElem_cons h1, List.all_cons]
    unfold okH at ih ⊢
    generalize hasV v ds[i] = b at *
    simp [ag, encD] at q
    rw [lp_run hL Tryz.func149 rfl (by rfl) 2 rfl]
    cases b with
    | true =>
      simp [h1, q, w6, -List.all_eq_true]
      simp [-List.all_eq_true] at ih
      exact ih
    | false =>
      by_cases c1 : ds[i].f0 = node
      · have c1' := eq_true c1
        by_cases c2 : ds[i].f1 = seq
        · have c2' := eq_true c2
          simp [h1, q, w6, c1', c2', -List.all_eq_true]
          simp [-List.all_eq_true] at ih
          exact ih
        · simp [h1, q, w6, c1', c2, -List.all_eq_true]
      · simp [h1, q, w6, c1, -List.all_eq_true]
theorem heard_l0 (l : List Eff) (node seq : Int) (v : List Int) (hl : l.length < 1000000) (hd : ∀ e ∈ l, e.f6.length < 1000000) (n : Nat) : ∀ i : Nat, l.length = i + n →
    A.lp 149 0 (hd149_0 [iv node, iv seq, pv (lZ v), pv (lE l), iv l.length, iv i] []) =
      some (if (l.drop i).all (fun e => e.f6.all (okH node seq v)) = true then (.exit 0, ex149_0 [nov] []) else (.ret, ex149_0 [bv false] [])) := by
  induction n with
  | zero =>
    intro i hi
    rw [lp_run hL Tryz.func149 rfl (by rfl) 0 rfl]
    obtain rfl : i = l.length := by omega
    simp
  | succ n ih =>
    intro i hi
    have h1 : i < l.length := by omega
    have ih := ih (i + 1) (by omega)
    have q := heard_l2 l node seq v i l[i].f6 (hd _ (List.getElem_mem h1)) l[i].f6.length 0 (by omega)
    rw [List.drop_zero] at q
    have w6 : IntKind.i64.wrap ((i : Int) + 1) = i + 1 := wr _ (by omega) (by omega)
    rw [List.drop_eq_getElem_cons h1, List.all_cons]
    rw [lp_run hL Tryz.func149 rfl (by rfl) 0 rfl]
    cases c : l[i].f6.all (okH node seq v) with
    | true =>
      rw [c] at q
      simp at q
      simp [h1, q, w6, encE, -List.all_eq_true]
      simp [-List.all_eq_true] at ih
      exact ih
    | false =>
      rw [c] at q
      simp at q
      simp [h1, q, w6, encE, -List.all_eq_true]
theorem effHeard (l : List Eff) (node seq : Int) (v : List Int) (hl : l.length < 1000000) (hd : ∀ e ∈ l, e.f6.length < 1000000) : A.fn 149 [pv (lE l), iv node, iv seq, pv (lZ v)] [] = some (.one (bv (heardE l node seq v)), []) := by
  have h := heard_l0 l node seq v hl hd l.length 0 (by omega)
  rw [List.drop_zero] at h
  unfold heardE
  rw [fn_run hL Tryz.func149 rfl L149 (by rfl) rfl rfl rfl (by decide)]
  cases c : l.all (fun e => e.f6.all (okH node seq v)) with
  | true =>
    rw [c] at h
    simp at h
    simp [Tryz.f149, h]
  | false =>
    rw [c] at h
    simp at h
    simp [Tryz.f149, h]
/-! ### Formed -/
def big (x : Int) : Bool := decide (1073741824 < x)
def WfT (t : Txn) : Prop := ∀ e ∈ t.f3, e.f6.length < 1000000
def formedT (t : Txn) : Bool := !(decide (t.f0 < 0) || decide (8 ≤ t.f0) || decide (t.f1 < 1) || decide (1073741824 < t.f1) || decide (8 < t.f2.length) || decide (8 < t.f3.length)) &&
  (decide (trimV t.f2 = t.f2) && decide (atV t.f2 t.f0 = t.f1 - 1) && !t.f2.any big && (rightE t.f0 t.f1 t.f3 && heardE t.f3 t.f0 t.f1 t.f2))
theorem form1T (x : Int) : A.fn 147 [iv x] [] = some (.one (bv (big x)), []) := by
  rw [fn_run hL Tryz.func147 rfl L147 (by rfl) rfl rfl rfl (by decide)]
  simp [Tryz.f147, big]
theorem txnFormed (t : Txn) (hw : WfT t) : A.fn 67 [ag (encT t)] [] = some (.one (bv (formedT t)), []) := by
  unfold formedT
  obtain ⟨f0, f1, f2, f3⟩ := t
  have hw : ∀ e ∈ f3, e.f6.length < 1000000 := hw
  simp only
  cases c : (decide (f0 < 0) || decide (8 ≤ f0) || decide (f1 < 1) || decide (1073741824 < f1) || decide (8 < f2.length) || decide (8 < f3.length)) with
  | true =>
    rw [fn_run hL Tryz.func67 rfl L67 (by rfl) rfl rfl rfl (by decide)]
    by_cases c1 : f0 < 0
    · simp [Tryz.f67, c1]
    · by_cases c2 : 8 ≤ f0
      · simp [Tryz.f67, c1, c2, -Int.not_lt]
      · by_cases c3 : f1 < 1
        · simp [Tryz.f67, c1, c2, c3, -Int.not_lt, -Int.not_le]
        · by_cases c4 : 1073741824 < f1
          · simp [Tryz.f67, c1, c2, c3, c4, -Int.not_lt, -Int.not_le]
          · by_cases c5 : 8 < f2.length
            · have c5' : (8 : Int) < f2.length := by omega
              simp [Tryz.f67, c1, c2, c3, c4, c5', -Int.not_lt, -Int.not_le]
            · have c5' : ¬ (8 : Int) < f2.length := by omega
              have c6' : (8 : Int) < f3.length := by
                simp [c1, c2, c3, c4, c5] at c
                omega
              simp [Tryz.f67, c1, c2, c3, c4, c5', c6', -Int.not_lt, -Int.not_le]
  | false =>
    simp only [Bool.or_eq_false_iff, decide_eq_false_iff_not] at c
    obtain ⟨⟨⟨⟨⟨c1, c2⟩, c3⟩, c4⟩, c5⟩, c6⟩ := c
    have c5' : ¬ (8 : Int) < f2.length := by omega
    have c6' : ¬ (8 : Int) < f3.length := by omega
    have q1 := vecTrim f2 (by omega)
    have ht := trimV_len f2
    have q2 := equalZ (trimV f2) f2 (by omega)
    have q3 := vecAt f2 f0
    have q4 := hasZ f2 147 [] big (by simp) (by omega) fun x _ => form1T x
    have q5 := effRight f0 f1 f3 (by omega) hw
    have q6 := effHeard f3 f0 f1 f2 (by omega) hw
    have w : IntKind.i64.wrap (f1 - 1) = f1 - 1 := wr _ (by omega) (by omega)
    generalize trimV f2 = tv at *
    generalize atV f2 f0 = av at *
    generalize f2.any big = b4 at *
    generalize rightE f0 f1 f3 = b5 at *
    generalize heardE f3 f0 f1 f2 = b6 at *
    generalize hd : decide (tv = f2) = b2 at *
    rw [fn_run hL Tryz.func67 rfl L67 (by rfl) rfl rfl rfl (by decide)]
    by_cases e : av = f1 - 1
    · have e' := eq_true e
      cases b2 <;> cases b4 <;> cases b5 <;> (simp [Tryz.f67, c1, c2, c3, c4, c5', c6', q1, q2, q3, q4, q5, q6, w, e', -Int.not_lt, -Int.not_le]; rw [if_pos ?q]; (case q => kernel_rfl); simp [q1, q2, q3, q4, q5, q6, w, e'])
    · cases b2 <;> (simp [Tryz.f67, c1, c2, c3, c4, c5', c6', q1, q2, q3, w, e, -Int.not_lt, -Int.not_le]; rw [if_pos ?q]; (case q => kernel_rfl); simp [q1, q2, q3, w, e])
end Go.E2.S
/-! Transactions: txn.Dot; order.Ready, Next, Chain. -/
namespace Go.E2.S
open Go Go.E2 Go.RowKit Go.Proofs
set_option linter.unusedVariables false
set_option linter.unusedSimpArgs false
set_option maxHeartbeats 4000000
set_option maxRecDepth 10000
def dotX (t : Txn) : Dot := ⟨t.f0, t.f1, 0⟩
def readyT (v : List Int) (t : Txn) : Bool := decide (1 ≤ t.f1) && (decide (t.f1 - 1 = atV v t.f0) && withinV t.f2 v)
def nextV (v : List Int) (t : Txn) : List Int := if badW t.f0 t.f1 = true then trimV v else withV v t.f0 t.f1
def chainT : List Int → List Txn → Bool
  | _, [] => true
  | v, t :: l => readyT v t && chainT (nextV v t) l
theorem withV_len (v : List Int) (a n : Int) : (withV v a n).length ≤ max v.length 8 := by
  unfold withV
  split
  · simp
  · rename_i h
    have := trimV_len ((v ++ List.replicate (a.toNat + 1 - v.length) 0).set a.toNat n)
    have q : ¬ a < 0 ∧ ¬ 8 ≤ a := by simp [badW] at h; omega
    simp at this ⊢
    omega
theorem nextV_len (v : List Int) (t : Txn) : (nextV v t).length ≤ max v.length 8 := by
  unfold nextV
  split
  · have := trimV_len v; omega
  · exact withV_len ..
theorem txnDot (t : Txn) : A.fn 181 [ag (encT t)] [] = some (.one (ag (encD (dotX t))), []) := by
  obtain ⟨f0, f1, f2, f3⟩ := t
  rw [fn_run hL Tryz.func181 rfl L181 (by rfl) rfl rfl rfl (by decide)]
  simp [Tryz.f181, dotX]
theorem orderReady (v : List Int) (t : Txn) (h1 : t.f1 ≤ 9223372036854775807) (h2 : t.f2.length < 1000000000) : A.fn 190 [pv (lZ v), ag (encT t)] [] = some (.one (bv (readyT v t)), []) := by
  obtain ⟨f0, f1, f2, f3⟩ := t
  have q1 := vecAt v f0
  have q2 := vecWithin f2 v h2
  have h1 : f1 ≤ 9223372036854775807 := h1
  unfold readyT
  simp only
  generalize atV v f0 = a at *
  generalize withinV f2 v = b at *
  rw [fn_run hL Tryz.func190 rfl L190 (by rfl) rfl rfl rfl (by decide)]
  by_cases c : 1 ≤ f1
  · have w : IntKind.i64.wrap (f1 - 1) = f1 - 1 := wr _ (by omega) (by omega)
    by_cases e : f1 - 1 = a
    · have e' := eq_true e
      cases b <;> (simp [Tryz.f190, c, q1, q2, w, e']; rw [if_pos ?q]; (case q => kernel_rfl); simp [c, q1, q2, w, e'])
    · simp [Tryz.f190, c, q1, q2, w, e]
      rw [if_pos ?q]
      (case q => kernel_rfl)
      simp [c, q1, q2, w, e]
  · simp [Tryz.f190, c, -Int.not_le]
    rw [if_pos ?q]
    (case q => kernel_rfl)
    simp [c, -Int.not_le]
theorem orderNext (v : List Int) (t : Txn) (hv : v.length < 100000000) : A.fn 121 [pv (lZ v), ag (encT t)] [] = some (.one (pv (lZ (nextV v t))), []) := by
  have q0 := txnDot t
  obtain ⟨f0, f1, f2, f3⟩ := t
  have q1 := vecWith v f0 f1 hv
  have q2 := vecTrim v (by omega)
  unfold nextV
  simp only
  generalize trimV v = tv at *
  generalize withV v f0 f1 = wv at *
  simp [ag, dotX] at q0
  rw [fn_run hL Tryz.func121 rfl L121 (by rfl) rfl rfl rfl (by decide)]
  cases c : badW f0 f1 <;> (rw [c] at q1; simp at q1; simp [Tryz.f121, q0, q1, q2, dotX])
theorem chain_loop (l : List Txn) (hl : l.length < 1000000) (h1 : ∀ t ∈ l, t.f1 ≤ 9223372036854775807 ∧ t.f2.length < 1000000000) (n : Nat) : ∀ (i : Nat) (v : List Int), l.length = i + n → v.length < 1000000 →
    A.lp 118 0 (hd118_0 [pv (lZ v), pv (lT l), iv l.length, iv i] []) =
      some (if chainT v (l.drop i) = true then (.exit 0, ex118_0 [nov] []) else (.ret, ex118_0 [bv false] [])) := by
  induction n with
  | zero =>
    intro i v hi hv
    rw [lp_run hL Tryz.func118 rfl (by rfl) 0 rfl]
    obtain rfl : i = l.length := by omega
    simp [chainT]
  | succ n ih =>
    intro i v hi hv
    have h2 : i < l.length := by omega
    have q := nextV_len v l[i]
    have ih := ih (i + 1) (nextV v l[i]) (by omega) (by omega)
    have w6 : IntKind.i64.wrap ((i : Int) + 1) = i + 1 := wr _ (by omega) (by omega)
    obtain ⟨g1, g2⟩ := h1 _ (List.getElem_mem h2)
    have q1 := orderReady v l[i] g1 g2
    have q2 := orderNext v l[i] (by omega)
    rw [List.drop_eq_getElem_cons h2]
    unfold chainT
    generalize nextV v l[i] = nv at *
    generalize readyT v l[i] = b at *
    simp [ag] at q1 q2
    rw [lp_run hL Tryz.func118 rfl (by rfl) 0 rfl]
    cases b with
    | true =>
      simp [h2, q1, q2, w6]
      simp at ih
      exact ih
    | false => simp [h2, q1, q2, w6]
theorem orderChain (v : List Int) (l : List Txn) (hv : v.length < 1000000) (hl : l.length < 1000000) (h1 : ∀ t ∈ l, t.f1 ≤ 9223372036854775807 ∧ t.f2.length < 1000000000) : A.fn 118 [pv (lZ v), pv (lT l)] [] = some (.one (bv (chainT v l)), []) := by
  have h := chain_loop l hl h1 l.length 0 v (by omega) hv
  rw [List.drop_zero] at h
  rw [fn_run hL Tryz.func118 rfl L118 (by rfl) rfl rfl rfl (by decide)]
  cases c : chainT v l <;> (rw [c] at h; simp at h; simp [Tryz.f118, h])
end Go.E2.S
/-! slices.IndexFunc, slices.ContainsFunc over a list that stays: Eff. -/
namespace Go.E2.S
open Go Go.E2 Go.RowKit Go.Proofs
set_option linter.unusedVariables false
set_option linter.unusedSimpArgs false
set_option maxHeartbeats 1000000
set_option maxRecDepth 10000
theorem idxW_loop (l : List Eff) (f : FuncId) (cs : List PV) (p : Eff → Bool) (hf : env.fns f = true) (hl : l.length < 1000000000) (hp : ∀ x ∈ l, A.fn f (ag (encE x) :: cs.map fun p => .at (.pv p)) [] = some (.one (bv (p x)), [])) (n : Nat) : ∀ i : Nat, l.length = i + n →
    A.lp 150 0 (hd150_0 [pv (lE l), pv (.fn f cs), iv l.length, iv i] []) =
      some (if (l.drop i).any p = true then (.ret, ex150_0 [iv (i + (l.drop i).findIdx p : Nat)] []) else (.exit 0, ex150_0 [nov] [])) := by
  induction n with
  | zero =>
    intro i hi
    rw [lp_run hL Tryz.func150 rfl (by rfl) 0 rfl]
    obtain rfl : i = l.length := by omega
    simp
  | succ n ih =>
    intro i hi
    have h1 : i < l.length := by omega
    have ih := ih (i + 1) (by omega)
    have hx := hp l[i] (List.getElem_mem h1)
    rw [lp_run hL Tryz.func150 rfl (by rfl) 0 rfl]
    rw [List.drop_eq_getElem_cons h1, List.any_cons, findI_cons]
    simp [ag, encE] at hx
    cases c : p l[i] with
    | true =>
      rw [c] at hx
      simp [h1, hx, hf]
    | false =>
      rw [c] at hx
      simp [h1, hx, hf, -List.any_eq_true]
      simp (disch := omega) only [wr]
      refine ih.trans ?_
      cases (l.drop (i + 1)).any p <;> simp [Nat.add_assoc, Nat.add_comm 1]
theorem idxW (l : List Eff) (f : FuncId) (cs : List PV) (p : Eff → Bool) (hf : env.fns f = true) (hl : l.length < 1000000000) (hp : ∀ x ∈ l, A.fn f (ag (encE x) :: cs.map fun p => .at (.pv p)) [] = some (.one (bv (p x)), [])) :
    A.fn 150 [pv (lE l), pv (.fn f cs)] [] = some (.one (iv (idxL p l)), []) := by
  have h := idxW_loop l f cs p hf hl hp l.length 0 (by omega)
  rw [fn_run hL Tryz.func150 rfl L150 (by rfl) rfl rfl rfl (by decide)]
  unfold idxL
  cases c : l.any p with
  | true =>
    simp [Tryz.f150, c] at h ⊢
    simp [h]
  | false =>
    simp [Tryz.f150, c] at h ⊢
    simp [h]
theorem hasW (l : List Eff) (f : FuncId) (cs : List PV) (p : Eff → Bool) (hf : env.fns f = true) (hl : l.length < 1000000000) (hp : ∀ x ∈ l, A.fn f (ag (encE x) :: cs.map fun p => .at (.pv p)) [] = some (.one (bv (p x)), [])) :
    A.fn 68 [pv (lE l), pv (.fn f cs)] [] = some (.one (bv (l.any p)), []) := by
  have h := idxW l f cs p hf hl hp
  rw [fn_run hL Tryz.func68 rfl L68 (by rfl) rfl rfl rfl (by decide)]
  unfold idxL at h
  cases c : l.any p with
  | true =>
    rw [c] at h
    simp at h
    simp [Tryz.f68, h]
  | false =>
    rw [c] at h
    simp at h
    simp [Tryz.f68, h]
end Go.E2.S
