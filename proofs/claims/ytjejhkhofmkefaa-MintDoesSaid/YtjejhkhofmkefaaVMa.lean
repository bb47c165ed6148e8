/- VMa: VM1, VM2, VM3, VM4, VM5, VM6, VQ1, VQ2. -/
import Derived.Test.YtjejhkhofmkefaaVI3
import Derived.Test.YtjejhkhofmkefaaVI7
import Derived.Test.YtjejhkhofmkefaaVIa
import Derived.Test.YtjejhkhofmkefaaVI6
import Derived.Test.YtjejhkhofmkefaaVF9
/-! Effects: the item that one makes; eff.Do. -/
namespace Go.E2.S
open Go Go.E2 Go.RowKit Go.Proofs
set_option linter.unusedVariables false
set_option linter.unusedSimpArgs false
set_option maxHeartbeats 2000000
set_option maxRecDepth 10000
structure Eff where
  f0 : Int
  f1 : ByteArray
  f2 : ByteArray
  f3 : Int
  f4 : ByteArray
  f5 : Int
  f6 : List Dot
  deriving DecidableEq
abbrev encE (e : Eff) : List PV := [.int .i64 e.f0, .str e.f1, .str e.f2, .int .i64 e.f3, .str e.f4, .int .i64 e.f5, lD e.f6]
abbrev lE (l : List Eff) : PV := .list 7 (l.map encE)
def madeE (node seq : Int) (e : Eff) : Item := ⟨e.f1, e.f2, e.f3, e.f4, e.f5, ⟨node, seq, e.f0⟩⟩
def stepE (node seq : Int) (out : List Item) (e : Eff) : List Item := normL (if e.f3 = 0 then out.filter (fun x => !dotIn e.f6 x.f5) else out.filter (fun x => !dotIn e.f6 x.f5) ++ [madeE node seq e])
def doE (node seq : Int) (items : List Item) (l : List Eff) : List Item := l.foldl (stepE node seq) items
theorem keepN_len2 : ∀ (l : List Item) (s : List Dot), (keepN s l).length ≤ l.length
  | [], _ => Nat.le_refl _
  | x :: l, s => by
    rw [keepN]
    split
    · have := keepN_len2 l s; simp; omega
    · have := keepN_len2 l (s ++ [x.f5]); simp; omega
theorem normL_len2 (l : List Item) : (normL l).length ≤ l.length := by
  have := keepN_len2 (sortI l) []
  have e : (sortI l).length = l.length := by unfold sortI; simp
  unfold normL
  omega
theorem stepE_len (node seq : Int) (out : List Item) (e : Eff) : (stepE node seq out e).length ≤ out.length + 1 := by
  unfold stepE
  have h := List.length_filter_le (fun x => !dotIn e.f6 x.f5) out
  split
  · have := normL_len2 (out.filter (fun x => !dotIn e.f6 x.f5)); omega
  · have := normL_len2 (out.filter (fun x => !dotIn e.f6 x.f5) ++ [madeE node seq e]); rw [List.length_append, List.length_singleton] at this; omega
theorem effMade (node seq : Int) (e : Eff) : A.fn 88 [iv node, iv seq, ag (encE e)] [] = some (.one (ag (encI (madeE node seq e))), []) := by
  rw [fn_run hL Try.func88 rfl L88 (by rfl) rfl rfl rfl (by decide)]
  simp [Try.f88, madeE]
theorem do_loop (node seq : Int) (l : List Eff) (hl : l.length < 1000000) (hd : ∀ e ∈ l, e.f6.length < 1000000000) (n : Nat) : ∀ (i : Nat) (out : List Item), l.length = i + n → out.length ≤ 1000000 + i →
    A.lp 47 0 (hd47_0 [iv node, iv seq, .at (.row 2000 0), pv (lE l), iv l.length, iv i] [(2000, 0, some (rI out))]) = some (.exit 0, ex47_0 [.at (.row 2000 0)] [(2000, 0, some (rI (doE node seq out (l.drop i))))]) := by
  induction n with
  | zero =>
    intro i out hi ho
    rw [lp_run hL Try.func47 rfl (by rfl) 0 rfl]
    obtain rfl : i = l.length := by omega
    simp [doE]
  | succ n ih =>
    intro i out hi ho
    have h1 : i < l.length := by omega
    have hstep := stepE_len node seq out l[i]
    have ih := ih (i + 1) (stepE node seq out l[i]) (by omega) (by omega)
    rw [List.drop_eq_getElem_cons h1, doE, List.foldl_cons, ← doE]
    have q1 := itemWithout out l[i].f6 (by omega) (hd _ (List.getElem_mem h1))
    have hf := List.length_filter_le (fun x => !dotIn l[i].f6 x.f5) out
    have q2 := effMade node seq l[i]
    simp only [ag, encE, encI, List.map_cons, List.map_nil, rI, pinN] at q1 q2
    by_cases c : l[i].f3 = 0
    · have q3 := itemNorm (out.filter (fun x => !dotIn l[i].f6 x.f5)) (by omega)
      have e : stepE node seq out l[i] = normL (out.filter (fun x => !dotIn l[i].f6 x.f5)) := by unfold stepE; rw [if_pos c]
      rw [e] at ih ⊢
      simp only [rI, pinN] at q3
      rw [lp_run hL Try.func47 rfl (by rfl) 0 rfl]
      simp [h1, c, q1, q2, q3, rI] at ih ⊢
      simp (disch := omega) only [wr]
      exact ih
    · have q3 := itemNorm (out.filter (fun x => !dotIn l[i].f6 x.f5) ++ [madeE node seq l[i]]) (by rw [List.length_append, List.length_singleton]; omega)
      have e : stepE node seq out l[i] = normL (out.filter (fun x => !dotIn l[i].f6 x.f5) ++ [madeE node seq l[i]]) := by unfold stepE; rw [if_neg c]
      have hlim : ((out.filter (fun x => !dotIn l[i].f6 x.f5)).length + 1) * 89 ≤ 70368744177664 := by omega
      rw [e] at ih ⊢
      simp only [rI, pinN, lI, List.map_append, List.map_cons, List.map_nil] at q3
      rw [lp_run hL Try.func47 rfl (by rfl) 0 rfl]
      simp [h1, c, q1, q2, q3, hlim, rI] at ih ⊢
      simp (disch := omega) only [wr]
      exact ih
theorem effDo (items : List Item) (node seq : Int) (l : List Eff) (hi : items.length ≤ 1000000) (hl : l.length < 1000000) (hd : ∀ e ∈ l, e.f6.length < 1000000000) : A.fn 47 [pv (lI items), iv node, iv seq, pv (lE l)] [] = some (.one (.at (.row pinN 0)), [some (rI (doE node seq items l))]) := by
  have h := do_loop node seq l hl hd l.length 0 items (by omega) (by omega)
  have h1 := cloneI items (by omega)
  rw [fn_run hL Try.func47 rfl L47 (by rfl) rfl rfl rfl (by decide)]
  simp only [rI, pinN] at h1
  simp [rI] at h
  simp [Try.f47, h, h1]
end Go.E2.S
/-! Dots in order: the comparison, SortFunc, Compact. -/
namespace Go.E2.S
open Go Go.E2 Go.RowKit Go.Proofs
set_option linter.unusedVariables false
set_option linter.unusedSimpArgs false
set_option maxHeartbeats 2000000
set_option maxRecDepth 10000
/-! ### Plain -/
def cmpD (a b : Dot) : Int := orZ [cmpZ a.f0 b.f0, cmpZ a.f1 b.f1, cmpZ a.f2 b.f2]
theorem good_cmpD : GoodC cmpD := by
  have h : GoodC fun x y : Dot => orZ [cmpZ x.f0 y.f0, cmpZ x.f1 y.f1, cmpZ x.f2 y.f2] := by
    unfold orZ
    refine (good_cmpZ.on fun x : Dot => x.f0).lex ?_
    unfold orZ
    refine (good_cmpZ.on fun x : Dot => x.f1).lex ?_
    unfold orZ
    have h8 := (good_cmpZ.on fun x : Dot => x.f2)
    have e : (fun x y : Dot => if cmpZ x.f2 y.f2 = 0 then orZ [] else cmpZ x.f2 y.f2) = fun x y => cmpZ x.f2 y.f2 := by
      funext x y
      by_cases h : cmpZ x.f2 y.f2 = 0
      · rw [if_pos h, h]; rfl
      · rw [if_neg h]
    rw [e]
    exact h8
  exact h
theorem cmpD_zero (x y : Dot) (h : cmpD x y = 0) : x = y := by
  have hz := orZ_zero _ h
  simp only [List.mem_cons, List.not_mem_nil, or_false, forall_eq_or_imp, forall_eq] at hz
  obtain ⟨h0, h1, h2⟩ := hz
  obtain ⟨a0, a1, a2⟩ := x
  obtain ⟨b0, b1, b2⟩ := y
  simp only at *
  rw [cmpZ_zero _ _ h0, cmpZ_zero _ _ h1, cmpZ_zero _ _ h2]
theorem ltD_irrefl (x : Dot) : ¬ cmpD x x < 0 := fun h => by have := (good_cmpD.anti x x).1 h; omega
theorem ltD_trans {x y z : Dot} (h : cmpD x y < 0) (h' : cmpD y z < 0) : cmpD x z < 0 := by
  have h1 := good_cmpD.trans x y z (by omega) (by omega)
  rcases Int.lt_or_eq_of_le h1 with h2 | h2
  · exact h2
  · obtain rfl := cmpD_zero x z h2
    have := (good_cmpD.anti x y).1 h
    omega
def sortD (l : List Dot) : List Dot := l.mergeSort fun x y => !decide (cmpD y x < 0)
/-- Neighbours that are alike become one. -/
def ddup : Dot → List Dot → List Dot
  | _, [] => []
  | p, x :: l => if x = p then ddup p l else x :: ddup x l
def compD : List Dot → List Dot
  | [] => []
  | x :: l => x :: ddup x l
theorem ddup_len : ∀ (p : Dot) (l : List Dot), (ddup p l).length ≤ l.length
  | _, [] => Nat.le_refl _
  | p, x :: l => by
    rw [ddup]
    split
    · have := ddup_len p l; simp; omega
    · have := ddup_len x l; simp; omega
/-! ### Walks -/
theorem dotCmp (a b : Dot) : A.fn 118 [ag (encD a), ag (encD b)] [] = some (.one (iv (cmpD a b)), []) := by
  have h0 := cmpZi a.f0 b.f0
  have h1 := cmpZi a.f1 b.f1
  have h2 := cmpZi a.f2 b.f2
  have h8 := cmpOr [cmpZ a.f0 b.f0, cmpZ a.f1 b.f1, cmpZ a.f2 b.f2] (by simp)
  rw [fn_run hL Try.func118 rfl L118 (by rfl) rfl rfl rfl (by decide)]
  simp only [lZ, List.map_cons, List.map_nil] at h8
  simp [Try.f118, h0, h1, h2, h8]
  rw [if_pos ?q]
  case q => kernel_rfl
  simp [h0, h1, h2, h8]
  rfl
theorem dotOrd (a b : Dot) : A.fn 121 [ag (encD a), ag (encD b)] [] = some (.one (iv (cmpD a b)), []) := by
  have h0 := cmpZi a.f0 b.f0
  have h1 := cmpZi a.f1 b.f1
  have h2 := cmpZi a.f2 b.f2
  have h8 := cmpOr [cmpZ a.f0 b.f0, cmpZ a.f1 b.f1, cmpZ a.f2 b.f2] (by simp)
  rw [fn_run hL Try.func121 rfl L121 (by rfl) rfl rfl rfl (by decide)]
  simp only [lZ, List.map_cons, List.map_nil] at h8
  simp [Try.f121, h0, h1, h2, h8]
  rw [if_pos ?q]
  case q => kernel_rfl
  simp [h0, h1, h2, h8]
  rfl
theorem cmpA_dot (x y : Dot) : cmpA A.fn 118 (encD x) (encD y) = some (cmpD x y) := by
  have h := dotCmp x y
  unfold cmpA
  simp only [ag] at h
  rw [h]
theorem cmpOf_dot (x y : Dot) : cmpOf A.fn 118 (encD x) (encD y) = cmpD x y := by
  unfold cmpOf
  rw [cmpA_dot]
  rfl
theorem tells_dot (l : List Dot) : Tells A.fn 118 (l.map encD) where
  ans x hx y hy := by
    obtain ⟨a, _, rfl⟩ := List.mem_map.1 hx
    obtain ⟨b, _, rfl⟩ := List.mem_map.1 hy
    exact ⟨_, cmpA_dot a b⟩
  irr x hx := by
    obtain ⟨a, _, rfl⟩ := List.mem_map.1 hx
    rw [cmpOf_dot]
    exact ltD_irrefl a
  trans x hx y hy z hz := by
    obtain ⟨a, _, rfl⟩ := List.mem_map.1 hx
    obtain ⟨b, _, rfl⟩ := List.mem_map.1 hy
    obtain ⟨c, _, rfl⟩ := List.mem_map.1 hz
    rw [cmpOf_dot, cmpOf_dot, cmpOf_dot]
    exact ltD_trans
  ntrans x hx y hy z hz := by
    obtain ⟨a, _, rfl⟩ := List.mem_map.1 hx
    obtain ⟨b, _, rfl⟩ := List.mem_map.1 hy
    obtain ⟨c, _, rfl⟩ := List.mem_map.1 hz
    rw [cmpOf_dot, cmpOf_dot, cmpOf_dot]
    intro h1 h2 h3
    have a1 := good_cmpD.anti a b
    have a2 := good_cmpD.anti b c
    have a3 := good_cmpD.anti a c
    have a4 := good_cmpD.anti b a
    have a5 := good_cmpD.anti c b
    have := good_cmpD.trans c b a (by omega) (by omega)
    omega
  total x hx y hy := by
    obtain ⟨a, _, rfl⟩ := List.mem_map.1 hx
    obtain ⟨b, _, rfl⟩ := List.mem_map.1 hy
    rw [cmpOf_dot, cmpOf_dot]
    intro h1 h2
    have a1 := good_cmpD.anti a b
    have a2 := good_cmpD.anti b a
    rw [cmpD_zero a b (by omega)]
theorem sortOf_dot (l : List Dot) : sortOf A.fn 118 (l.map encD) = (sortD l).map encD := by
  unfold sortOf sortD
  exact (List.map_mergeSort (fun a _ b _ => by rw [cmpOf_dot])).symm
abbrev rD (l : List Dot) : AObj := .row true 3 (l.map encD)
theorem sortDots (l : List Dot) (hl : l.length < 1000000000) : A.fn 117 [.at (.row pinN 0), .at (.pv (.fn 118 []))] [rD l] = some (.tup [], [some (rD (sortD l))]) := by
  have h := (lib_run hL L117 [.at (.row pinN 0), .at (.pv (.fn 118 []))] [rD l]).trans (sortF_at (P := Try.prog) (H := A.fn) (g := 118) (k := 3) (xs := l.map encD) ⟨by kernel_rfl, by simp; omega, fun x hx p hp => by
    obtain ⟨a, _, rfl⟩ := List.mem_map.1 hx
    simp at hp
    rcases hp with rfl | rfl | rfl <;> rfl, tells_dot l⟩)
  rw [sortOf_dot] at h
  exact h
/-- The inner loop of Compact: s2 is the row's tail from k0 on. -/
theorem compD_l2 (l : List Dot) (hl : l.length < 1000000000) (k0 : Nat) (hk0 : 1 ≤ k0) (n : Nat) : ∀ (k k2 : Nat) (ys : List Dot), l.length = k0 + k2 + n → 1 ≤ k2 → ys.length = l.length → ys.drop (k0 + k2 - 1) = l.drop (k0 + k2 - 1) → k0 ≤ k → k ≤ k0 + k2 - 1 →
    (h : k0 + k2 - 1 < l.length) → ∃ (zs : List Dot) (k' : Nat), zs.length = l.length ∧ k' ≤ l.length ∧ zs.take k' = ys.take k ++ ddup l[k0 + k2 - 1] (l.drop (k0 + k2)) ∧
    A.lp 119 2 (hd119_2 [.at (.row pinN 0), iv k, .at (.tail pinN 0 k0), iv k2] [(pinN, 0, some (rD ys))]) = some (.exit 2, ex119_2 [.at (.row pinN 0), iv k'] [(pinN, 0, some (rD zs))]) := by
  induction n with
  | zero =>
    intro k k2 ys hn h2 hy hd hk hk' h
    refine ⟨ys, k, hy, by omega, by rw [List.drop_of_length_le (by omega)]; simp [ddup], ?_⟩
    rw [lp_run hL Try.func119 rfl (by rfl) 2 rfl]
    have e : ys.length - k0 = k2 := by omega
    have e2 : k0 ≤ ys.length := by omega
    simp [e, e2]
  | succ n ih =>
    intro k k2 ys hn h2 hy hd hk hk' h
    have h3 : k0 + k2 < l.length := by omega
    have h4 : k0 + k2 < ys.length := by omega
    have h5 : k0 + k2 - 1 < ys.length := by omega
    have h6 : k < ys.length := by omega
    have e0 : k0 + k2 - 1 + 1 = k0 + k2 := by omega
    rw [List.drop_eq_getElem_cons h, List.drop_eq_getElem_cons h5] at hd
    obtain ⟨d1, d2⟩ := List.cons.inj hd
    rw [e0] at d2
    have d2' := d2
    rw [List.drop_eq_getElem_cons h3, List.drop_eq_getElem_cons h4] at d2'
    obtain ⟨d3, d4⟩ := List.cons.inj d2'
    rw [List.drop_eq_getElem_cons h3, ddup]
    have e1 : k2 < ys.length - k0 := by omega
    have e2 : k0 ≤ ys.length := by omega
    have e3 : k0 + (k2 + 1) - 1 = k0 + k2 := by omega
    have hw : IntKind.i64.wrap ((k2 : Int) - 1) = ((k2 - 1 : Nat) : Int) := by rw [wr _ (by omega) (by omega)]; omega
    have e4 : k2 - 1 < ys.length - k0 := by omega
    have e5 : k0 + (k2 - 1) = k0 + k2 - 1 := by omega
    by_cases c : l[k0 + k2] = l[k0 + k2 - 1]
    · rw [if_pos c]
      obtain ⟨zs, k', z1, z2, z3, z4⟩ := ih k (k2 + 1) ys (by omega) (by omega) hy (by rw [e3]; exact d2) hk (by omega) (by omega)
      refine ⟨zs, k', z1, z2, ?_, ?_⟩
      · rw [z3]
        simp only [e3]
        rw [c]
        rfl
      · rw [lp_run hL Try.func119 rfl (by rfl) 2 rfl]
        have q1 : (ys[k0 + k2] = ys[k0 + (k2 - 1)]) = True := by
          refine eq_true ?_
          simp only [e5]
          rw [d3, d1, c]
        have h5' : k0 + (k2 - 1) < ys.length := by omega
        simp [e1, e2, e4, h4, h5', hw, dot_ext, q1] at z4 ⊢
        simp (disch := omega) only [wr]
        exact z4
    · rw [if_neg c]
      obtain ⟨zs, k', z1, z2, z3, z4⟩ := ih (k + 1) (k2 + 1) (ys.set k ys[k0 + k2]) (by omega) (by omega) (by simp [hy]) (by rw [e3, List.drop_set_of_lt (by omega)]; exact d2) (by omega) (by omega) (by omega)
      refine ⟨zs, k', z1, z2, ?_, ?_⟩
      · rw [z3, List.take_succ_eq_append_getElem (by simp; omega), List.take_set_of_le (by omega)]
        simp only [e3, List.getElem_set_self, d3, List.append_assoc, List.singleton_append]
        rfl
      · rw [lp_run hL Try.func119 rfl (by rfl) 2 rfl]
        have q1 : (ys[k0 + k2] = ys[k0 + (k2 - 1)]) = False := by
          refine eq_false ?_
          simp only [e5]
          rw [d3, d1]
          exact c
        have h5' : k0 + (k2 - 1) < ys.length := by omega
        simp only [rD, List.map_set] at z4
        simp [e1, e2, e4, h4, h5', h6, hw, dot_ext, q1] at z4 ⊢
        simp (disch := omega) only [wr]
        exact z4
theorem compD_loop (l : List Dot) (hl : l.length < 1000000000) (n : Nat) : ∀ (k : Nat) (hk : 1 ≤ k), l.length = k + n → (h : k - 1 < l.length) → compD l = l.take k ++ ddup l[k - 1] (l.drop k) →
    (compD l = l ∧ A.lp 119 0 (hd119_0 [.at (.row pinN 0), iv k] [(pinN, 0, some (rD l))]) = some (.exit 0, ex119_0 [.at (.row pinN 0), nov] [(pinN, 0, some (rD l))])) ∨
    A.lp 119 0 (hd119_0 [.at (.row pinN 0), iv k] [(pinN, 0, some (rD l))]) = some (.ret, ex119_0 [.at (.row pinN 0), .at (.row 2001 0)] [(pinN, 0, none), (2001, 0, some (rD (compD l)))]) := by
  induction n with
  | zero =>
    intro k hk hn h hpre
    rw [List.drop_of_length_le (by omega), List.take_of_length_le (by omega)] at hpre
    refine .inl ⟨by simpa [ddup] using hpre, ?_⟩
    rw [lp_run hL Try.func119 rfl (by rfl) 0 rfl]
    obtain rfl : k = l.length := by omega
    simp
  | succ n ih =>
    intro k hk hn h hpre
    have h1 : k < l.length := by omega
    have hw : IntKind.i64.wrap ((k : Int) - 1) = ((k - 1 : Nat) : Int) := by rw [wr _ (by omega) (by omega)]; omega
    have hpre0 := hpre
    rw [List.drop_eq_getElem_cons h1, ddup] at hpre
    by_cases c : l[k] = l[k - 1]
    · rw [if_pos c] at hpre
      refine .inr ?_
      obtain ⟨zs, k', z1, z2, z3, z4⟩ := compD_l2 l hl k hk (l.length - (k + 1)) k 1 l (by omega) (by omega) rfl rfl (by omega) (by omega) (by omega)
      have q1 := eq_true c
      rw [hpre, ← show l.take k ++ ddup l[k + 1 - 1] (l.drop (k + 1)) = l.take k ++ ddup l[k - 1] (l.drop (k + 1)) by simp only [Nat.add_sub_cancel]; rw [c], ← z3]
      have e1 : k ≤ l.length := by omega
      have e2 : ¬ (k : Int) < 0 := by omega
      have e3 : ¬ (k' : Int) < 0 := by omega
      have e4 : k' ≤ zs.length := by omega
      simp at z4
      rw [lp_run hL Try.func119 rfl (by rfl) 0 rfl]
      simp [h1, h, hw, dot_ext, q1, e1, e2, e3, e4, z4]
    · rw [if_neg c] at hpre
      have ih := ih (k + 1) (by omega) (by omega) (by omega) (by
        rw [hpre, show l.take (k + 1) = l.take k ++ [l[k]] from List.take_succ_eq_append_getElem h1, List.append_assoc]
        rfl)
      have q1 := eq_false c
      rcases ih with ⟨i1, i2⟩ | i2
      · refine .inl ⟨i1, ?_⟩
        rw [lp_run hL Try.func119 rfl (by rfl) 0 rfl]
        simp [h1, h, hw, dot_ext, q1] at i2 ⊢
        simp (disch := omega) only [wr]
        exact i2
      · refine .inr ?_
        rw [lp_run hL Try.func119 rfl (by rfl) 0 rfl]
        simp [h1, h, hw, dot_ext, q1] at i2 ⊢
        simp (disch := omega) only [wr]
        exact i2
theorem compDots (l : List Dot) (hl : l.length < 1000000000) : ∃ b, A.fn 119 [.at (.row pinN 0)] [rD l] = some (delR b (rD (compD l))) := by
  match l, hl with
  | [], _ =>
    refine ⟨false, ?_⟩
    rw [fn_run hL Try.func119 rfl L119 (by rfl) rfl rfl rfl (by decide)]
    simp [Try.f119, delR, compD]
  | [x], _ =>
    refine ⟨false, ?_⟩
    rw [fn_run hL Try.func119 rfl L119 (by rfl) rfl rfl rfl (by decide)]
    simp [Try.f119, delR, compD, ddup]
  | x :: y :: l, hl =>
    have hm : 2 ≤ (x :: y :: l).length := by simp
    rcases compD_loop (x :: y :: l) hl (l.length + 1) 1 (by omega) (by simp; omega) (by simp) (by simp [compD]) with ⟨i1, i2⟩ | i2
    · refine ⟨false, ?_⟩
      rw [i1]
      generalize x :: y :: l = m at *
      have e : ¬ (m.length : Int) < 2 := by omega
      rw [fn_run hL Try.func119 rfl L119 (by rfl) rfl rfl rfl (by decide)]
      simp at i2
      simp [Try.f119, delR, i2, e]
    · refine ⟨true, ?_⟩
      generalize x :: y :: l = m at *
      have e : ¬ (m.length : Int) < 2 := by omega
      rw [fn_run hL Try.func119 rfl L119 (by rfl) rfl rfl rfl (by decide)]
      simp at i2
      simp [Try.f119, delR, i2, e]
end Go.E2.S
/-! Requests: which items one takes away. -/
namespace Go.E2.S
open Go Go.E2 Go.RowKit Go.Proofs
set_option linter.unusedVariables false
set_option linter.unusedSimpArgs false
set_option maxHeartbeats 2000000
set_option maxRecDepth 10000
structure Req where
  f0 : Int
  f1 : ByteArray
  f2 : ByteArray
  f3 : ByteArray
  f4 : Int
  deriving DecidableEq
abbrev encQ (q : Req) : List PV := [.int .i64 q.f0, .str q.f1, .str q.f2, .str q.f3, .int .i64 q.f4]
abbrev lQ (l : List Req) : PV := .list 5 (l.map encQ)
def dropsQ (q : Req) (x : Item) (node : Int) : Bool :=
  if q.f0 = 1 then decide (x.f2 = 1) && decide (x.f3 = q.f3)
  else if q.f0 = 2 then decide (x.f2 = 1) && decide (x.f3 = q.f3)
  else if q.f0 = 3 then decide (x.f2 = 2)
  else if q.f0 = 4 then decide (x.f2 = 3) && decide (x.f5.f0 = node)
  else true
theorem mintDrops (q : Req) (x : Item) (node : Int) : A.fn 116 [ag (encQ q), ag (encI x), iv node] [] = some (.one (bv (dropsQ q x node)), []) := by
  rw [fn_run hL Try.func116 rfl L116 (by rfl) rfl rfl rfl (by decide)]
  unfold dropsQ
  by_cases c1 : q.f0 = 1
  · by_cases d : x.f2 = 1
    · simp [Try.f116, c1, d]
    · simp [Try.f116, c1, d]
  · by_cases c2 : q.f0 = 2
    · by_cases d : x.f2 = 1
      · simp [Try.f116, c2, d]
      · simp [Try.f116, c2, d]
    · by_cases c3 : q.f0 = 3
      · simp [Try.f116, c3]
      · by_cases c4 : q.f0 = 4
        · by_cases d : x.f2 = 3
          · simp [Try.f116, c4, d]
          · simp [Try.f116, c4, d]
        · simp [Try.f116, c1, c2, c3, c4]
end Go.E2.S
/-! One request: what its loop gathers. -/
namespace Go.E2.S
open Go Go.E2 Go.RowKit Go.Proofs
set_option linter.unusedVariables false
set_option linter.unusedSimpArgs false
set_option maxHeartbeats 4000000
set_option maxRecDepth 10000
/-- Does a request take an item away? -/
def takes (q : Req) (node : Int) (x : Item) : Bool := inField q.f1 q.f2 x && dropsQ q x node
abbrev bQ (q : Req) : AObj := .blk [.pv (.int .i64 q.f0), .pv (.str q.f1), .pv (.str q.f2), .pv (.str q.f3), .pv (.int .i64 q.f4)]
abbrev oneO (q : Req) (at_ : Int) (ds : List Dot) (ns : List Int) : List Upd := [(2000, 0, some (bQ q)), (2001, 0, some (.blk [.pv (.int .i64 0), .pv (.str ⟨#[]⟩), .pv (.str ⟨#[]⟩), .pv (.int .i64 0), .pv (.str ⟨#[]⟩), .pv (.int .i64 0), .nil])), (2002, 0, some (rD ds)),
  (2003, 0, some (.blk [.pv (.int .i64 at_), .pv (.str q.f1), .pv (.str q.f2), .pv (.int .i64 0), .pv (.str q.f3), .pv (.int .i64 0), .row 2002 0])), (2004, 0, some (.row true 1 (ns.map encZ)))]
theorem one_loop (l : List Item) (node seq at_ : Int) (q : Req) (hl : l.length ≤ 1000000) (n : Nat) : ∀ (i : Nat) (ds : List Dot) (ns : List Int), l.length = i + n → ds.length ≤ i → ns.length ≤ i + 1 →
    A.lp 87 0 (hd87_0 [pv (lI l), iv node, iv seq, .at (.ptr 2000 0 0), .at (.ptr 2001 0 0), .at (.ptr 2003 0 0), .at (.row 2004 0), pv (lI l), iv l.length, iv i] (oneO q at_ ds ns)) =
      some (.exit 0, ex87_0 [pv (lI l), iv node, iv seq, .at (.ptr 2000 0 0), .at (.ptr 2001 0 0), .at (.ptr 2003 0 0), .at (.row 2004 0)] (oneO q at_ (ds ++ pick (takes q node) Item.f5 (l.drop i)) (ns ++ pick (takes q node) Item.f4 (l.drop i)))) := by
  induction n with
  | zero =>
    intro i ds ns h h1 h2
    obtain rfl : i = l.length := by omega
    rw [lp_run hL Try.func87 rfl (by rfl) 0 rfl]
    simp [pick]
  | succ n ih =>
    intro i ds ns h h1 h2
    have hi : i < l.length := by omega
    have l1 : (ds.length + 1) * 25 ≤ 70368744177664 := by omega
    have l2 : (ns.length + 1) * 9 ≤ 70368744177664 := by omega
    have hx := mintDrops q l[i] node
    simp only [ag, encQ, encI, List.map_cons, List.map_nil] at hx
    have w1 : IntKind.i64.wrap ((i : Int) + 1) = i + 1 := wr _ (by omega) (by omega)
    rw [List.drop_eq_getElem_cons hi]
    by_cases c1 : l[i].f0 = q.f1
    · have c1' := eq_true c1
      by_cases c2 : l[i].f1 = q.f2
      · have c2' := eq_true c2
        cases d : dropsQ q l[i] node with
        | true =>
          rw [d] at hx
          have ih := ih (i + 1) (ds ++ [l[i].f5]) (ns ++ [l[i].f4]) (by omega) (by simp; omega) (by simp; omega)
          rw [pick_pos (by simp [takes, inField, c1, c2, d]), pick_pos (by simp [takes, inField, c1, c2, d]), List.append_cons ds, List.append_cons ns]
          rw [lp_run hL Try.func87 rfl (by rfl) 0 rfl]
          simp [hi, c1', c2', hx, l1, l2, w1, rD, oneO] at ih ⊢
          exact ih
        | false =>
          rw [d] at hx
          have ih := ih (i + 1) ds ns (by omega) (by omega) (by omega)
          rw [pick_neg (by simp [takes, d]), pick_neg (by simp [takes, d])]
          rw [lp_run hL Try.func87 rfl (by rfl) 0 rfl]
          simp [hi, c1', c2', hx, l1, l2, w1, rD, oneO] at ih ⊢
          exact ih
      · have c2' := eq_false c2
        have ih := ih (i + 1) ds ns (by omega) (by omega) (by omega)
        rw [pick_neg (by simp [takes, inField, c2]), pick_neg (by simp [takes, inField, c2])]
        rw [lp_run hL Try.func87 rfl (by rfl) 0 rfl]
        simp [hi, c1', c2', l1, l2, w1, rD, oneO] at ih ⊢
        exact ih
    · have c1' := eq_false c1
      have ih := ih (i + 1) ds ns (by omega) (by omega) (by omega)
      rw [pick_neg (by simp [takes, inField, c1]), pick_neg (by simp [takes, inField, c1])]
      rw [lp_run hL Try.func87 rfl (by rfl) 0 rfl]
      simp [hi, c1', l1, l2, w1, rD, oneO] at ih ⊢
      exact ih
end Go.E2.S
/-! One request. -/
namespace Go.E2.S
open Go Go.E2 Go.RowKit Go.Proofs
set_option linter.unusedVariables false
set_option linter.unusedSimpArgs false
set_option maxHeartbeats 4000000
set_option maxRecDepth 10000
def eff0 : Eff := ⟨0, ⟨#[]⟩, ⟨#[]⟩, 0, ⟨#[]⟩, 0, []⟩
def dropsL (q : Req) (node : Int) (items : List Item) : List Dot := compD (sortD (pick (takes q node) Item.f5 items))
theorem dropsL_len (q : Req) (node : Int) (items : List Item) : (dropsL q node items).length ≤ items.length := by
  unfold dropsL
  have h1 := pick_len (takes q node) Item.f5 items
  have h2 : (sortD (pick (takes q node) Item.f5 items)).length = (pick (takes q node) Item.f5 items).length := by unfold sortD; simp
  have h3 : ∀ l : List Dot, (compD l).length ≤ l.length := fun l => by
    cases l with
    | nil => exact Nat.le_refl _
    | cons x l => have := ddup_len x l; simp [compD]; omega
  have := h3 (sortD (pick (takes q node) Item.f5 items))
  omega
theorem one_long (l : List Item) (node seq at_ : Int) (q : Req) (hl : l.length ≤ 1000000) (hs : 64 < (dropsL q node l).length) :
    A.fn 87 [pv (lI l), iv node, iv seq, iv at_, ag (encQ q)] [] = some (.tup [ag (encE eff0), bv false, iv 4], []) := by
  have h := one_loop l node seq at_ q hl l.length 0 [] [q.f4] (by omega) (by simp) (by simp)
  have hp := pick_len (takes q node) Item.f5 l
  have q1 := sortDots (pick (takes q node) Item.f5 l) (by omega)
  obtain ⟨b, q2⟩ := compDots (sortD (pick (takes q node) Item.f5 l)) (by unfold sortD; simp; omega)
  have hd : compD (sortD (pick (takes q node) Item.f5 l)) = dropsL q node l := rfl
  rw [hd] at q2
  have s1 : (64 : Int) < (dropsL q node l).length := by omega
  rw [fn_run hL Try.func87 rfl L87 (by rfl) rfl rfl rfl (by decide)]
  simp only [rD, pinN] at q1
  cases b
  · simp only [delR, rD, pinN, Nat.reduceAdd] at q2
    simp [rD, oneO] at h
    simp [Try.f87, h, q1, q2, s1, eff0]
  · simp only [delR, rD, pinN, Nat.reduceAdd] at q2
    simp [rD, oneO] at h
    simp [Try.f87, h, q1, q2, s1, eff0]
theorem one_add (l : List Item) (node seq at_ : Int) (q : Req) (hl : l.length ≤ 1000000) (hs : (dropsL q node l).length ≤ 64) (h1 : q.f0 = 1) :
    A.fn 87 [pv (lI l), iv node, iv seq, iv at_, ag (encQ q)] [] = some (.tup [ag (encE ⟨at_, q.f1, q.f2, 1, q.f3, 0, dropsL q node l⟩), bv true, iv 0], []) := by
  have h := one_loop l node seq at_ q hl l.length 0 [] [q.f4] (by omega) (by simp) (by simp)
  have hp := pick_len (takes q node) Item.f5 l
  have q1 := sortDots (pick (takes q node) Item.f5 l) (by omega)
  obtain ⟨b, q2⟩ := compDots (sortD (pick (takes q node) Item.f5 l)) (by unfold sortD; simp; omega)
  have hd : compD (sortD (pick (takes q node) Item.f5 l)) = dropsL q node l := rfl
  rw [hd] at q2
  have s1 : ¬ (64 : Int) < (dropsL q node l).length := by omega
  have e1 := eq_true h1
  rw [fn_run hL Try.func87 rfl L87 (by rfl) rfl rfl rfl (by decide)]
  simp only [rD, pinN] at q1
  cases b
  · simp only [delR, rD, pinN, Nat.reduceAdd] at q2
    simp [rD, oneO] at h
    simp [Try.f87, h, q1, q2, s1, e1]
  · simp only [delR, rD, pinN, Nat.reduceAdd] at q2
    simp [rD, oneO] at h
    simp [Try.f87, h, q1, q2, s1, e1]
theorem one_put (l : List Item) (node seq at_ : Int) (q : Req) (hl : l.length ≤ 1000000) (hs : (dropsL q node l).length ≤ 64) (h1 : q.f0 = 3) :
    A.fn 87 [pv (lI l), iv node, iv seq, iv at_, ag (encQ q)] [] = some (.tup [ag (encE ⟨at_, q.f1, q.f2, 2, q.f3, 0, dropsL q node l⟩), bv true, iv 0], []) := by
  have h := one_loop l node seq at_ q hl l.length 0 [] [q.f4] (by omega) (by simp) (by simp)
  have hp := pick_len (takes q node) Item.f5 l
  have q1 := sortDots (pick (takes q node) Item.f5 l) (by omega)
  obtain ⟨b, q2⟩ := compDots (sortD (pick (takes q node) Item.f5 l)) (by unfold sortD; simp; omega)
  have hd : compD (sortD (pick (takes q node) Item.f5 l)) = dropsL q node l := rfl
  rw [hd] at q2
  have s1 : ¬ (64 : Int) < (dropsL q node l).length := by omega
  have e1 := eq_true h1
  have e2 : (q.f0 = 1) = False := eq_false (by omega)
  rw [fn_run hL Try.func87 rfl L87 (by rfl) rfl rfl rfl (by decide)]
  simp only [rD, pinN] at q1
  cases b
  · simp only [delR, rD, pinN, Nat.reduceAdd] at q2
    simp [rD, oneO] at h
    simp [Try.f87, h, q1, q2, s1, e1, e2]
  · simp only [delR, rD, pinN, Nat.reduceAdd] at q2
    simp [rD, oneO] at h
    simp [Try.f87, h, q1, q2, s1, e1, e2]
theorem one_drop (l : List Item) (node seq at_ : Int) (q : Req) (hl : l.length ≤ 1000000) (hs : (dropsL q node l).length ≤ 64) (h1 : ¬ q.f0 = 1) (h3 : ¬ q.f0 = 3) (h4 : ¬ q.f0 = 4) :
    A.fn 87 [pv (lI l), iv node, iv seq, iv at_, ag (encQ q)] [] = some (.tup [ag (encE ⟨at_, q.f1, q.f2, 0, ⟨#[]⟩, 0, dropsL q node l⟩), bv (decide (0 < (dropsL q node l).length)), iv 0], []) := by
  have h := one_loop l node seq at_ q hl l.length 0 [] [q.f4] (by omega) (by simp) (by simp)
  have hp := pick_len (takes q node) Item.f5 l
  have q1 := sortDots (pick (takes q node) Item.f5 l) (by omega)
  obtain ⟨b, q2⟩ := compDots (sortD (pick (takes q node) Item.f5 l)) (by unfold sortD; simp; omega)
  have hd : compD (sortD (pick (takes q node) Item.f5 l)) = dropsL q node l := rfl
  rw [hd] at q2
  have s1 : ¬ (64 : Int) < (dropsL q node l).length := by omega
  have e1 := eq_false h1
  have e2 := eq_false h3
  have e3 := eq_false h4
  rw [fn_run hL Try.func87 rfl L87 (by rfl) rfl rfl rfl (by decide)]
  simp only [rD, pinN] at q1
  cases b
  · simp only [delR, rD, pinN, Nat.reduceAdd] at q2
    simp [rD, oneO] at h
    simp [Try.f87, h, q1, q2, s1, e1, e2, e3]
    rw [if_pos ?q]
    case q => kernel_rfl
    simp [s1, e1, e2, e3]
  · simp only [delR, rD, pinN, Nat.reduceAdd] at q2
    simp [rD, oneO] at h
    simp [Try.f87, h, q1, q2, s1, e1, e2, e3]
    rw [if_pos ?q]
    case q => kernel_rfl
    simp [s1, e1, e2, e3]
end Go.E2.S
/-! One request: counting. -/
namespace Go.E2.S
open Go Go.E2 Go.RowKit Go.Proofs
set_option linter.unusedVariables false
set_option linter.unusedSimpArgs false
set_option maxHeartbeats 4000000
set_option maxRecDepth 10000
def incE (q : Req) (node : Int) (at_ : Int) (l : List Item) : Eff := ⟨at_, q.f1, q.f2, 3, q.f3, (tot (q.f4 :: pick (takes q node) Item.f4 l).sum).1, dropsL q node l⟩
def incBad (q : Req) (node seq at_ : Int) (l : List Item) : Bool := !decide ((tot (q.f4 :: pick (takes q node) Item.f4 l).sum).2 = 0) || (fieldV (doE node seq l [incE q node at_ l]) q.f1 q.f2).f3
theorem tot_wf (s : Int) : I64 (tot s).1 := by
  unfold tot I64
  split <;> simp <;> omega
theorem madeE_wf {node seq : Int} {e : Eff} (hn : I64 node) (hs : I64 seq) (h0 : I64 e.f0) (h3 : I64 e.f3) (h5 : I64 e.f5) : WfI (madeE node seq e) := ⟨h3, h5, hn, hs, h0⟩
theorem stepE_sub {node seq : Int} {out : List Item} {e : Eff} {x : Item} (h : x ∈ stepE node seq out e) : x ∈ out ∨ x = madeE node seq e := by
  unfold stepE at h
  have h := (normL_mem.1 h).1
  split at h
  · exact .inl (List.mem_filter.1 h).1
  · rcases List.mem_append.1 h with h | h
    · exact .inl (List.mem_filter.1 h).1
    · exact .inr (List.mem_singleton.1 h)
theorem one_inc (l : List Item) (node seq at_ : Int) (q : Req) (hl : l.length ≤ 60000) (hw : ∀ x ∈ l, WfI x) (hn : I64 node) (hsq : I64 seq) (ha : I64 at_) (hq : I64 q.f4) (hs : (dropsL q node l).length ≤ 64) (h4 : q.f0 = 4) :
    A.fn 87 [pv (lI l), iv node, iv seq, iv at_, ag (encQ q)] [] = some (if incBad q node seq at_ l = true then .tup [ag (encE eff0), bv false, iv 5] else .tup [ag (encE (incE q node at_ l)), bv true, iv 0], []) := by
  have h := one_loop l node seq at_ q (by omega) l.length 0 [] [q.f4] (by omega) (by simp) (by simp)
  have hp := pick_len (takes q node) Item.f5 l
  have hp4 := pick_len (takes q node) Item.f4 l
  have q1 := sortDots (pick (takes q node) Item.f5 l) (by omega)
  obtain ⟨b, q2⟩ := compDots (sortD (pick (takes q node) Item.f5 l)) (by unfold sortD; simp; omega)
  have hd : compD (sortD (pick (takes q node) Item.f5 l)) = dropsL q node l := rfl
  rw [hd] at q2
  have s1 : ¬ (64 : Int) < (dropsL q node l).length := by omega
  have e1 : (q.f0 = 1) = False := eq_false (by omega)
  have e3 : (q.f0 = 3) = False := eq_false (by omega)
  have e4 := eq_true h4
  have q3 := total (q.f4 :: pick (takes q node) Item.f4 l) (by rw [List.length_cons]; omega) (fun x hx => by
    rcases List.mem_cons.1 hx with rfl | hx
    · exact hq
    · obtain ⟨y, hy, rfl⟩ := List.mem_map.1 hx
      exact (hw y (List.mem_filter.1 hy).1).2.1)
  have q4 := effDo l node seq [incE q node at_ l] (by omega) (by simp) (fun e he => by
    obtain rfl := List.mem_singleton.1 he
    show (dropsL q node l).length < 1000000000
    omega)
  have hwd : ∀ x ∈ doE node seq l [incE q node at_ l], WfI x := fun x hx => by
    rcases stepE_sub hx with hx | rfl
    · exact hw x hx
    · exact madeE_wf hn hsq ha (by unfold incE I64; simp) (tot_wf _)
  have hld : (doE node seq l [incE q node at_ l]).length < 100000 := by
    have := stepE_len node seq l (incE q node at_ l)
    show (stepE node seq l (incE q node at_ l)).length < 100000
    omega
  have q5 := vfield (doE node seq l [incE q node at_ l]) q.f1 q.f2 hld hwd
  unfold incBad
  rw [fn_run hL Try.func87 rfl L87 (by rfl) rfl rfl rfl (by decide)]
  simp only [rD, pinN] at q1
  simp only [rI, pinN, lE, encE, incE, List.map_cons, List.map_nil] at q4
  simp only [lZ, List.map_cons] at q3
  simp only [ag, encV, incE, List.map_cons, List.map_nil] at q5
  simp [rD, oneO] at h
  cases b
  · simp only [delR, rD, pinN, Nat.reduceAdd] at q2
    by_cases c : (tot (q.f4 :: pick (takes q node) Item.f4 l).sum).2 = 0
    · simp only [List.sum_cons] at c q3 q4 q5
      simp [Try.f87, h, q1, q2, q3, q4, q5, s1, e1, e3, e4, c, eff0, incE]
      rw [if_pos ?q]
      case q => kernel_rfl
      cases v : (fieldV (doE node seq l [⟨at_, q.f1, q.f2, 3, q.f3, (tot (q.f4 + (pick (takes q node) Item.f4 l).sum)).1, dropsL q node l⟩]) q.f1 q.f2).f3
      · simp [v]
      · simp [v]
    · simp only [List.sum_cons] at c q3
      have c' := eq_false c
      simp [Try.f87, h, q1, q2, q3, s1, e1, e3, e4, c', eff0]
      rw [if_pos ?q]
      case q => kernel_rfl
      simp [c']
  · simp only [delR, rD, pinN, Nat.reduceAdd] at q2
    by_cases c : (tot (q.f4 :: pick (takes q node) Item.f4 l).sum).2 = 0
    · simp only [List.sum_cons] at c q3 q4 q5
      simp [Try.f87, h, q1, q2, q3, q4, q5, s1, e1, e3, e4, c, eff0, incE]
      rw [if_pos ?q]
      case q => kernel_rfl
      cases v : (fieldV (doE node seq l [⟨at_, q.f1, q.f2, 3, q.f3, (tot (q.f4 + (pick (takes q node) Item.f4 l).sum)).1, dropsL q node l⟩]) q.f1 q.f2).f3
      · simp [v]
      · simp [v]
    · simp only [List.sum_cons] at c q3
      have c' := eq_false c
      simp [Try.f87, h, q1, q2, q3, s1, e1, e3, e4, c', eff0]
      rw [if_pos ?q]
      case q => kernel_rfl
      simp [c']
end Go.E2.S
/-! slices.IndexFunc, slices.ContainsFunc over a list that stays: Req. -/
namespace Go.E2.S
open Go Go.E2 Go.RowKit Go.Proofs
set_option linter.unusedVariables false
set_option linter.unusedSimpArgs false
set_option maxHeartbeats 1000000
set_option maxRecDepth 10000
theorem idxQ_loop (l : List Req) (f : FuncId) (cs : List PV) (p : Req → Bool) (hf : env.fns f = true) (hl : l.length < 1000000000) (hp : ∀ x ∈ l, A.fn f (ag (encQ x) :: cs.map fun p => .at (.pv p)) [] = some (.one (bv (p x)), [])) (n : Nat) : ∀ i : Nat, l.length = i + n →
    A.lp 115 0 (hd115_0 [pv (lQ l), pv (.fn f cs), iv l.length, iv i] []) =
      some (if (l.drop i).any p = true then (.ret, ex115_0 [iv (i + (l.drop i).findIdx p : Nat)] []) else (.exit 0, ex115_0 [nov] [])) := by
  induction n with
  | zero =>
    intro i hi
    rw [lp_run hL Try.func115 rfl (by rfl) 0 rfl]
    obtain rfl : i = l.length := by omega
    simp
  | succ n ih =>
    intro i hi
    have h1 : i < l.length := by omega
    have ih := ih (i + 1) (by omega)
    have hx := hp l[i] (List.getElem_mem h1)
    rw [lp_run hL Try.func115 rfl (by rfl) 0 rfl]
    rw [List.drop_eq_getElem_cons h1, List.any_cons, findI_cons]
    simp only [ag, encQ, List.map_cons, List.map_nil] at hx
    cases c : p l[i] with
    | true =>
      rw [c] at hx
      simp [h1, hx, hf]
    | false =>
      rw [c] at hx
      simp [h1, hx, hf, -List.any_eq_true]
      simp (disch := omega) only [wr]
      refine ih.trans ?_
      cases (l.drop (i + 1)).any p <;> simp [Nat.add_assoc, Nat.add_comm 1]
theorem idxQ (l : List Req) (f : FuncId) (cs : List PV) (p : Req → Bool) (hf : env.fns f = true) (hl : l.length < 1000000000) (hp : ∀ x ∈ l, A.fn f (ag (encQ x) :: cs.map fun p => .at (.pv p)) [] = some (.one (bv (p x)), [])) :
    A.fn 115 [pv (lQ l), pv (.fn f cs)] [] = some (.one (iv (idxL p l)), []) := by
  have h := idxQ_loop l f cs p hf hl hp l.length 0 (by omega)
  rw [fn_run hL Try.func115 rfl L115 (by rfl) rfl rfl rfl (by decide)]
  unfold idxL
  cases c : l.any p with
  | true =>
    simp [Try.f115, c] at h ⊢
    simp [h]
  | false =>
    simp [Try.f115, c] at h ⊢
    simp [h]
theorem hasQ (l : List Req) (f : FuncId) (cs : List PV) (p : Req → Bool) (hf : env.fns f = true) (hl : l.length < 1000000000) (hp : ∀ x ∈ l, A.fn f (ag (encQ x) :: cs.map fun p => .at (.pv p)) [] = some (.one (bv (p x)), [])) :
    A.fn 85 [pv (lQ l), pv (.fn f cs)] [] = some (.one (bv (l.any p)), []) := by
  have h := idxQ l f cs p hf hl hp
  rw [fn_run hL Try.func85 rfl L85 (by rfl) rfl rfl rfl (by decide)]
  unfold idxL at h
  cases c : l.any p with
  | true =>
    rw [c] at h
    simp at h
    simp [Try.f85, h]
  | false =>
    rw [c] at h
    simp at h
    simp [Try.f85, h]
end Go.E2.S
/-! slices.IndexFunc, slices.ContainsFunc over a list that stays: Dot. -/
namespace Go.E2.S
open Go Go.E2 Go.RowKit Go.Proofs
set_option linter.unusedVariables false
set_option linter.unusedSimpArgs false
set_option maxHeartbeats 1000000
set_option maxRecDepth 10000
theorem idxDf_loop (l : List Dot) (f : FuncId) (cs : List PV) (p : Dot → Bool) (hf : env.fns f = true) (hl : l.length < 1000000000) (hp : ∀ x ∈ l, A.fn f (ag (encD x) :: cs.map fun p => .at (.pv p)) [] = some (.one (bv (p x)), [])) (n : Nat) : ∀ i : Nat, l.length = i + n →
    A.lp 122 0 (hd122_0 [pv (lD l), pv (.fn f cs), iv l.length, iv i] []) =
      some (if (l.drop i).any p = true then (.ret, ex122_0 [iv (i + (l.drop i).findIdx p : Nat)] []) else (.exit 0, ex122_0 [nov] [])) := by
  induction n with
  | zero =>
    intro i hi
    rw [lp_run hL Try.func122 rfl (by rfl) 0 rfl]
    obtain rfl : i = l.length := by omega
    simp
  | succ n ih =>
    intro i hi
    have h1 : i < l.length := by omega
    have ih := ih (i + 1) (by omega)
    have hx := hp l[i] (List.getElem_mem h1)
    rw [lp_run hL Try.func122 rfl (by rfl) 0 rfl]
    rw [List.drop_eq_getElem_cons h1, List.any_cons, findI_cons]
    simp only [ag, encD, List.map_cons, List.map_nil] at hx
    cases c : p l[i] with
    | true =>
      rw [c] at hx
      simp [h1, hx, hf]
    | false =>
      rw [c] at hx
      simp [h1, hx, hf, -List.any_eq_true]
      simp (disch := omega) only [wr]
      refine ih.trans ?_
      cases (l.drop (i + 1)).any p <;> simp [Nat.add_assoc, Nat.add_comm 1]
theorem idxDf (l : List Dot) (f : FuncId) (cs : List PV) (p : Dot → Bool) (hf : env.fns f = true) (hl : l.length < 1000000000) (hp : ∀ x ∈ l, A.fn f (ag (encD x) :: cs.map fun p => .at (.pv p)) [] = some (.one (bv (p x)), [])) :
    A.fn 122 [pv (lD l), pv (.fn f cs)] [] = some (.one (iv (idxL p l)), []) := by
  have h := idxDf_loop l f cs p hf hl hp l.length 0 (by omega)
  rw [fn_run hL Try.func122 rfl L122 (by rfl) rfl rfl rfl (by decide)]
  unfold idxL
  cases c : l.any p with
  | true =>
    simp [Try.f122, c] at h ⊢
    simp [h]
  | false =>
    simp [Try.f122, c] at h ⊢
    simp [h]
theorem hasDf (l : List Dot) (f : FuncId) (cs : List PV) (p : Dot → Bool) (hf : env.fns f = true) (hl : l.length < 1000000000) (hp : ∀ x ∈ l, A.fn f (ag (encD x) :: cs.map fun p => .at (.pv p)) [] = some (.one (bv (p x)), [])) :
    A.fn 90 [pv (lD l), pv (.fn f cs)] [] = some (.one (bv (l.any p)), []) := by
  have h := idxDf l f cs p hf hl hp
  rw [fn_run hL Try.func90 rfl L90 (by rfl) rfl rfl rfl (by decide)]
  unfold idxL at h
  cases c : l.any p with
  | true =>
    rw [c] at h
    simp at h
    simp [Try.f90, h]
  | false =>
    rw [c] at h
    simp at h
    simp [Try.f90, h]
end Go.E2.S
