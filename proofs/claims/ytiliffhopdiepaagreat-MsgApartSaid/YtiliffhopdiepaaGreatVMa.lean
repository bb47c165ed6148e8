/- VMa: VM1, VM2, VM3, VM4, VM5, VM6, VQ1, VQ2. -/
import Derived.Test.YtiliffhopdiepaaGreatVIc
import Derived.Test.YtiliffhopdiepaaGreatVIa
import Derived.Test.YtiliffhopdiepaaGreatVFb
/-! Effects: the item that one makes; eff.Do. -/
namespace Go.E2.S
open Go Go.E2 Go.RowKit Go.Proofs
set_option linter.unusedVariables false
set_option linter.unusedSimpArgs false
set_option maxHeartbeats 2000000
set_option maxRecDepth 10000
structure Eff where
  f0 : Int
  f1 : ByteArray
  f2 : ByteArray
  f3 : Int
  f4 : ByteArray
  f5 : Int
  f6 : List Dot
  deriving DecidableEq
abbrev encE (e : Eff) : List PV := [.int .i64 e.f0, .str e.f1, .str e.f2, .int .i64 e.f3, .str e.f4, .int .i64 e.f5, lD e.f6]
abbrev lE (l : List Eff) : PV := .list 7 (l.map encE)
def madeE (node seq : Int) (e : Eff) : Item := ⟨e.f1, e.f2, e.f3, e.f4, e.f5, ⟨node, seq, e.f0⟩⟩
def stepE (node seq : Int) (out : List Item) (e : Eff) : List Item := normL (if e.f3 = 0 then out.filter (fun x => !dotIn e.f6 x.f5) else out.filter (fun x => !dotIn e.f6 x.f5) ++ [madeE node seq e])
def doE (node seq : Int) (items : List Item) (l : List Eff) : List Item := l.foldl (stepE node seq) items
theorem keepN_len2 : ∀ (l : List Item) (s : List Dot), (keepN s l).length ≤ l.length
  | [], _ => Nat.le_refl _
  | x :: l, s => by
    rw [keepN]
    split
    · have := keepN_len2 l s; simp; omega
    · have := keepN_len2 l (s ++ [x.f5]); simp; omega
theorem normL_len2 (l : List Item) : (normL l).length ≤ l.length := by
  have := keepN_len2 (sortI l) []
  have e : (sortI l).length = l.length := by unfold sortI; simp
  unfold normL
  omega
theorem stepE_len (node seq : Int) (out : List Item) (e : Eff) : (stepE node seq out e).length ≤ out.length + 1 := by
  unfold stepE
  have h := List.length_filter_le (fun x => !dotIn e.f6 x.f5) out
  split
  · have := normL_len2 (out.filter (fun x => !dotIn e.f6 x.f5)); omega
  · have := normL_len2 (out.filter (fun x => !dotIn e.f6 x.f5) ++ [madeE node seq e]); rw [List.length_append, List.length_singleton] at this; omega
theorem effMade (node seq : Int) (e : Eff) : A.fn 241 [iv node, iv seq, ag (encE e)] [] = some (.one (ag (encI (madeE node seq e))), []) := by
  rw [fn_run hL Tryz.func241 rfl L241 (by rfl) rfl rfl rfl (by decide)]
  simp [Tryz.f241, madeE]
theorem do_loop (node seq : Int) (l : List Eff) (hl : l.length < 1000000) (hd : ∀ e ∈ l, e.f6.length < 1000000000) (n : Nat) : ∀ (i : Nat) (out : List Item), l.length = i + n → out.length ≤ 1000000 + i →
    A.lp 215 0 (hd215_0 [iv node, iv seq, .at (.row 2000 0), pv (lE l), iv l.length, iv i] [(2000, 0, some (rI out))]) = some (.exit 0, ex215_0 [.at (.row 2000 0)] [(2000, 0, some (rI (doE node seq out (l.drop i))))]) := by
  induction n with
  | zero =>
    intro i out hi ho
    rw [lp_run hL Tryz.func215 rfl (by rfl) 0 rfl]
    obtain rfl : i = l.length := by omega
    simp [doE]
  | succ n ih =>
    intro i out hi ho
    have h1 : i < l.length := by omega
    have hstep := stepE_len node seq out l[i]
    have ih := ih (i + 1) (stepE node seq out l[i]) (by omega) (by omega)
    rw [List.drop_eq_getElem_cons h1, doE, List.foldl_cons, ← doE]
    have q1 := itemWithout out l[i].f6 (by omega) (hd _ (List.getElem_mem h1))
    have hf := List.length_filter_le (fun x => !dotIn l[i].f6 x.f5) out
    have q2 := effMade node seq l[i]
    simp only [ag, encE, encI, List.map_cons, List.map_nil, rI, pinN] at q1 q2
    by_cases c : l[i].f3 = 0
    · have q3 := itemNorm (out.filter (fun x => !dotIn l[i].f6 x.f5)) (by omega)
      have e : stepE node seq out l[i] = normL (out.filter (fun x => !dotIn l[i].f6 x.f5)) := by unfold stepE; rw [if_pos c]
      rw [e] at ih ⊢
      simp only [rI, pinN] at q3
      rw [lp_run hL Tryz.func215 rfl (by rfl) 0 rfl]
      simp [h1, c, q1, q2, q3, rI] at ih ⊢
      simp (disch := omega) only [wr]
      exact ih
    · have q3 := itemNorm (out.filter (fun x => !dotIn l[i].f6 x.f5) ++ [madeE node seq l[i]]) (by rw [List.length_append, List.length_singleton]; omega)
      have e : stepE node seq out l[i] = normL (out.filter (fun x => !dotIn l[i].f6 x.f5) ++ [madeE node seq l[i]]) := by unfold stepE; rw [if_neg c]
      have hlim : ((out.filter (fun x => !dotIn l[i].f6 x.f5)).length + 1) * 89 ≤ 70368744177664 := by omega
      rw [e] at ih ⊢
      simp only [rI, pinN, lI, List.map_append, List.map_cons, List.map_nil] at q3
      rw [lp_run hL Tryz.func215 rfl (by rfl) 0 rfl]
      simp [h1, c, q1, q2, q3, hlim, rI] at ih ⊢
      simp (disch := omega) only [wr]
      exact ih
theorem effDo (items : List Item) (node seq : Int) (l : List Eff) (hi : items.length ≤ 1000000) (hl : l.length < 1000000) (hd : ∀ e ∈ l, e.f6.length < 1000000000) : A.fn 215 [pv (lI items), iv node, iv seq, pv (lE l)] [] = some (.one (.at (.row pinN 0)), [some (rI (doE node seq items l))]) := by
  have h := do_loop node seq l hl hd l.length 0 items (by omega) (by omega)
  have h1 := cloneI items (by omega)
  rw [fn_run hL Tryz.func215 rfl L215 (by rfl) rfl rfl rfl (by decide)]
  simp only [rI, pinN] at h1
  simp [rI] at h
  simp [Tryz.f215, h, h1]
end Go.E2.S
/-! Dots in order: the comparison, SortFunc, Compact. -/
namespace Go.E2.S
open Go Go.E2 Go.RowKit Go.Proofs
set_option linter.unusedVariables false
set_option linter.unusedSimpArgs false
set_option maxHeartbeats 2000000
set_option maxRecDepth 10000
/-! ### Plain -/
def cmpD (a b : Dot) : Int := orZ [cmpZ a.f0 b.f0, cmpZ a.f1 b.f1, cmpZ a.f2 b.f2]
theorem good_cmpD : GoodC cmpD := by
  have h : GoodC fun x y : Dot => orZ [cmpZ x.f0 y.f0, cmpZ x.f1 y.f1, cmpZ x.f2 y.f2] := by
    unfold orZ
    refine (good_cmpZ.on fun x : Dot => x.f0).lex ?_
    unfold orZ
    refine (good_cmpZ.on fun x : Dot => x.f1).lex ?_
    unfold orZ
    have h8 := (good_cmpZ.on fun x : Dot => x.f2)
    have e : (fun x y : Dot => if cmpZ x.f2 y.f2 = 0 then orZ [] else cmpZ x.f2 y.f2) = fun x y => cmpZ x.f2 y.f2 := by
      funext x y
      by_cases h : cmpZ x.f2 y.f2 = 0
      · rw [if_pos h, h]; rfl
      · rw [if_neg h]
    rw [e]
    exact h8
  exact h
theorem cmpD_zero (x y : Dot) (h : cmpD x y = 0) : x = y := by
  have hz := orZ_zero _ h
  simp only [List.mem_cons, List.not_mem_nil, or_false, forall_eq_or_imp, forall_eq] at hz
  obtain ⟨h0, h1, h2⟩ := hz
  obtain ⟨a0, a1, a2⟩ := x
  obtain ⟨b0, b1, b2⟩ := y
  simp only at *
  rw [cmpZ_zero _ _ h0, cmpZ_zero _ _ h1, cmpZ_zero _ _ h2]
theorem ltD_irrefl (x : Dot) : ¬ cmpD x x < 0 := fun h => by have := (good_cmpD.anti x x).1 h; omega
theorem ltD_trans {x y z : Dot} (h : cmpD x y < 0) (h' : cmpD y z < 0) : cmpD x z < 0 := by
  have h1 := good_cmpD.trans x y z (by omega) (by omega)
  rcases Int.lt_or_eq_of_le h1 with h2 | h2
  · exact h2
  · obtain rfl := cmpD_zero x z h2
    have := (good_cmpD.anti x y).1 h
    omega
def sortD (l : List Dot) : List Dot := l.mergeSort fun x y => !decide (cmpD y x < 0)
/-- Neighbours that are alike become one. -/
def ddup : Dot → List Dot → List Dot
  | _, [] => []
  | p, x :: l => if x = p then ddup p l else x :: ddup x l
def compD : List Dot → List Dot
  | [] => []
  | x :: l => x :: ddup x l
theorem ddup_len : ∀ (p : Dot) (l : List Dot), (ddup p l).length ≤ l.length
  | _, [] => Nat.le_refl _
  | p, x :: l => by
    rw [ddup]
    split
    · have := ddup_len p l; simp; omega
    · have := ddup_len x l; simp; omega
/-! ### Walks -/
theorem dotOrd (a b : Dot) : A.fn 240 [ag (encD a), ag (encD b)] [] = some (.one (iv (cmpD a b)), []) := by
  have h0 := cmpZi a.f0 b.f0
  have h1 := cmpZi a.f1 b.f1
  have h2 := cmpZi a.f2 b.f2
  have h8 := cmpOr [cmpZ a.f0 b.f0, cmpZ a.f1 b.f1, cmpZ a.f2 b.f2] (by simp)
  rw [fn_run hL Tryz.func240 rfl L240 (by rfl) rfl rfl rfl (by decide)]
  simp only [lZ, List.map_cons, List.map_nil] at h8
  simp [Tryz.f240, h0, h1, h2, h8]
  rw [if_pos ?q]
  case q => kernel_rfl
  simp [h0, h1, h2, h8]
  rfl
abbrev rD (l : List Dot) : AObj := .row true 3 (l.map encD)
end Go.E2.S
/-! Requests: which items one takes away. -/
namespace Go.E2.S
open Go Go.E2 Go.RowKit Go.Proofs
set_option linter.unusedVariables false
set_option linter.unusedSimpArgs false
set_option maxHeartbeats 2000000
set_option maxRecDepth 10000
structure Req where
  f0 : Int
  f1 : ByteArray
  f2 : ByteArray
  f3 : ByteArray
  f4 : Int
  deriving DecidableEq
abbrev encQ (q : Req) : List PV := [.int .i64 q.f0, .str q.f1, .str q.f2, .str q.f3, .int .i64 q.f4]
abbrev lQ (l : List Req) : PV := .list 5 (l.map encQ)
def dropsQ (q : Req) (x : Item) (node : Int) : Bool :=
  if q.f0 = 1 then decide (x.f2 = 1) && decide (x.f3 = q.f3)
  else if q.f0 = 2 then decide (x.f2 = 1) && decide (x.f3 = q.f3)
  else if q.f0 = 3 then decide (x.f2 = 2)
  else if q.f0 = 4 then decide (x.f2 = 3) && decide (x.f5.f0 = node)
  else true
end Go.E2.S
/-! One request: what its loop gathers. -/
namespace Go.E2.S
open Go Go.E2 Go.RowKit Go.Proofs
set_option linter.unusedVariables false
set_option linter.unusedSimpArgs false
set_option maxHeartbeats 4000000
set_option maxRecDepth 10000
/-- Does a request take an item away? -/
def takes (q : Req) (node : Int) (x : Item) : Bool := inField q.f1 q.f2 x && dropsQ q x node
abbrev bQ (q : Req) : AObj := .blk [.pv (.int .i64 q.f0), .pv (.str q.f1), .pv (.str q.f2), .pv (.str q.f3), .pv (.int .i64 q.f4)]
abbrev oneO (q : Req) (at_ : Int) (ds : List Dot) (ns : List Int) : List Upd := [(2000, 0, some (bQ q)), (2001, 0, some (.blk [.pv (.int .i64 0), .pv (.str ⟨#[]⟩), .pv (.str ⟨#[]⟩), .pv (.int .i64 0), .pv (.str ⟨#[]⟩), .pv (.int .i64 0), .nil])), (2002, 0, some (rD ds)),
  (2003, 0, some (.blk [.pv (.int .i64 at_), .pv (.str q.f1), .pv (.str q.f2), .pv (.int .i64 0), .pv (.str q.f3), .pv (.int .i64 0), .row 2002 0])), (2004, 0, some (.row true 1 (ns.map encZ)))]
end Go.E2.S
/-! One request. -/
namespace Go.E2.S
open Go Go.E2 Go.RowKit Go.Proofs
set_option linter.unusedVariables false
set_option linter.unusedSimpArgs false
set_option maxHeartbeats 4000000
set_option maxRecDepth 10000
def eff0 : Eff := ⟨0, ⟨#[]⟩, ⟨#[]⟩, 0, ⟨#[]⟩, 0, []⟩
def dropsL (q : Req) (node : Int) (items : List Item) : List Dot := compD (sortD (pick (takes q node) Item.f5 items))
theorem dropsL_len (q : Req) (node : Int) (items : List Item) : (dropsL q node items).length ≤ items.length := by
  unfold dropsL
  have h1 := pick_len (takes q node) Item.f5 items
  have h2 : (sortD (pick (takes q node) Item.f5 items)).length = (pick (takes q node) Item.f5 items).length := by unfold sortD; simp
  have h3 : ∀ l : List Dot, (compD l).length ≤ l.length := fun l => by
    cases l with
    | nil => exact Nat.le_refl _
    | cons x l => have := ddup_len x l; simp [compD]; omega
  have := h3 (sortD (pick (takes q node) Item.f5 items))
  omega
end Go.E2.S
/-! One request: counting. -/
namespace Go.E2.S
open Go Go.E2 Go.RowKit Go.Proofs
set_option linter.unusedVariables false
set_option linter.unusedSimpArgs false
set_option maxHeartbeats 4000000
set_option maxRecDepth 10000
def incE (q : Req) (node : Int) (at_ : Int) (l : List Item) : Eff := ⟨at_, q.f1, q.f2, 3, q.f3, (tot (q.f4 :: pick (takes q node) Item.f4 l).sum).1, dropsL q node l⟩
def incBad (q : Req) (node seq at_ : Int) (l : List Item) : Bool := !decide ((tot (q.f4 :: pick (takes q node) Item.f4 l).sum).2 = 0) || (fieldV (doE node seq l [incE q node at_ l]) q.f1 q.f2).f3
theorem tot_wf (s : Int) : I64 (tot s).1 := by
  unfold tot I64
  split <;> simp <;> omega
theorem madeE_wf {node seq : Int} {e : Eff} (hn : I64 node) (hs : I64 seq) (h0 : I64 e.f0) (h3 : I64 e.f3) (h5 : I64 e.f5) : WfI (madeE node seq e) := ⟨h3, h5, hn, hs, h0⟩
theorem stepE_sub {node seq : Int} {out : List Item} {e : Eff} {x : Item} (h : x ∈ stepE node seq out e) : x ∈ out ∨ x = madeE node seq e := by
  unfold stepE at h
  have h := (normL_mem.1 h).1
  split at h
  · exact .inl (List.mem_filter.1 h).1
  · rcases List.mem_append.1 h with h | h
    · exact .inl (List.mem_filter.1 h).1
    · exact .inr (List.mem_singleton.1 h)
end Go.E2.S
/-! slices.IndexFunc, slices.ContainsFunc over a list that stays: Req. -/
namespace Go.E2.S
open Go Go.E2 Go.RowKit Go.Proofs
set_option linter.unusedVariables false
set_option linter.unusedSimpArgs false
set_option maxHeartbeats 1000000
set_option maxRecDepth 10000
end Go.E2.S
/-! slices.IndexFunc, slices.ContainsFunc over a list that stays: Dot. -/
namespace Go.E2.S
open Go Go.E2 Go.RowKit Go.Proofs
set_option linter.unusedVariables false
set_option linter.unusedSimpArgs false
set_option maxHeartbeats 1000000
set_option maxRecDepth 10000
theorem idxDf_loop (l : List Dot) (f : FuncId) (cs : List PV) (p : Dot → Bool) (hf : env.fns f = true) (hl : l.length < 1000000000) (hp : ∀ x ∈ l, A.fn f (ag (encD x) :: cs.map fun p => .at (.pv p)) [] = some (.one (bv (p x)), [])) (n : Nat) : ∀ i : Nat, l.length = i + n →
    A.lp 242 0 (hd242_0 [pv (lD l), pv (.fn f cs), iv l.length, iv i] []) =
      some (if (l.drop i).any p = true then (.ret, ex242_0 [iv (i + (l.drop i).findIdx p : Nat)] []) else (.exit 0, ex242_0 [nov] [])) := by
  induction n with
  | zero =>
    intro i hi
    rw [lp_run hL Tryz.func242 rfl (by rfl) 0 rfl]
    obtain rfl : i = l.length := by omega
    simp
  | succ n ih =>
    intro i hi
    have h1 : i < l.length := by omega
    have ih := ih (i + 1) (by omega)
    have hx := hp l[i] (List.getElem_mem h1)
    rw [lp_run hL Tryz.func242 rfl (by rfl) 0 rfl]
    rw [List.drop_eq_getElem_cons h1, List.any_cons, findI_cons]
    simp only [ag, encD, List.map_cons, List.map_nil] at hx
    cases c : p l[i] with
    | true =>
      rw [c] at hx
      simp [h1, hx, hf]
    | false =>
      rw [c] at hx
      simp [h1, hx, hf, -List.any_eq_true]
      simp (disch := omega) only [wr]
      refine ih.trans ?_
      cases (l.drop (i + 1)).any p <;> simp [Nat.add_assoc, Nat.add_comm 1]
theorem idxDf (l : List Dot) (f : FuncId) (cs : List PV) (p : Dot → Bool) (hf : env.fns f = true) (hl : l.length < 1000000000) (hp : ∀ x ∈ l, A.fn f (ag (encD x) :: cs.map fun p => .at (.pv p)) [] = some (.one (bv (p x)), [])) :
    A.fn 242 [pv (lD l), pv (.fn f cs)] [] = some (.one (iv (idxL p l)), []) := by
  have h := idxDf_loop l f cs p hf hl hp l.length 0 (by omega)
  rw [fn_run hL Tryz.func242 rfl L242 (by rfl) rfl rfl rfl (by decide)]
  unfold idxL
  cases c : l.any p with
  | true =>
    simp [Tryz.f242, c] at h ⊢
    simp [h]
  | false =>
    simp [Tryz.f242, c] at h ⊢
    simp [h]
theorem hasDf (l : List Dot) (f : FuncId) (cs : List PV) (p : Dot → Bool) (hf : env.fns f = true) (hl : l.length < 1000000000) (hp : ∀ x ∈ l, A.fn f (ag (encD x) :: cs.map fun p => .at (.pv p)) [] = some (.one (bv (p x)), [])) :
    A.fn 207 [pv (lD l), pv (.fn f cs)] [] = some (.one (bv (l.any p)), []) := by
  have h := idxDf l f cs p hf hl hp
  rw [fn_run hL Tryz.func207 rfl L207 (by rfl) rfl rfl rfl (by decide)]
  unfold idxL at h
  cases c : l.any p with
  | true =>
    rw [c] at h
    simp at h
    simp [Tryz.f207, h]
  | false =>
    rw [c] at h
    simp at h
    simp [Tryz.f207, h]
end Go.E2.S
