/- Dots in order: the comparison, SortFunc, Compact. -/
import Derived.Test.YtjejhkhofmkefaaVI1
import Derived.Test.YtjejhkhofmkefaaVI2
import Derived.Test.YtjejhkhofmkefaaVI6
namespace Go.E2.S
open Go Go.E2 Go.RowKit Go.Proofs
set_option linter.unusedVariables false
set_option linter.unusedSimpArgs false
set_option maxHeartbeats 2000000
set_option maxRecDepth 10000
/-! ### Plain -/
def cmpD (a b : Dot) : Int := orZ [cmpZ a.f0 b.f0, cmpZ a.f1 b.f1, cmpZ a.f2 b.f2]
theorem good_cmpD : GoodC cmpD := by
  have h : GoodC fun x y : Dot => orZ [cmpZ x.f0 y.f0, cmpZ x.f1 y.f1, cmpZ x.f2 y.f2] := by
    unfold orZ
    refine (good_cmpZ.on fun x : Dot => x.f0).lex ?_
    unfold orZ
    refine (good_cmpZ.on fun x : Dot => x.f1).lex ?_
    unfold orZ
    have h8 := (good_cmpZ.on fun x : Dot => x.f2)
    have e : (fun x y : Dot => if cmpZ x.f2 y.f2 = 0 then orZ [] else cmpZ x.f2 y.f2) = fun x y => cmpZ x.f2 y.f2 := by
      funext x y
      by_cases h : cmpZ x.f2 y.f2 = 0
      · rw [if_pos h, h]; rfl
      · rw [if_neg h]
    rw [e]
    exact h8
  exact h
theorem cmpD_zero (x y : Dot) (h : cmpD x y = 0) : x = y := by
  have hz := orZ_zero _ h
  simp only [List.mem_cons, List.not_mem_nil, or_false, forall_eq_or_imp, forall_eq] at hz
  obtain ⟨h0, h1, h2⟩ := hz
  obtain ⟨a0, a1, a2⟩ := x
  obtain ⟨b0, b1, b2⟩ := y
  simp only at *
  rw [cmpZ_zero _ _ h0, cmpZ_zero _ _ h1, cmpZ_zero _ _ h2]
theorem ltD_irrefl (x : Dot) : ¬ cmpD x x < 0 := fun h => by have := (good_cmpD.anti x x).1 h; omega
theorem ltD_trans {x y z : Dot} (h : cmpD x y < 0) (h' : cmpD y z < 0) : cmpD x z < 0 := by
  have h1 := good_cmpD.trans x y z (by omega) (by omega)
  rcases Int.lt_or_eq_of_le h1 with h2 | h2
  · exact h2
  · obtain rfl := cmpD_zero x z h2
    have := (good_cmpD.anti x y).1 h
    omega
def sortD (l : List Dot) : List Dot := l.mergeSort fun x y => !decide (cmpD y x < 0)
/-- Neighbours that are alike become one. -/
def ddup : Dot → List Dot → List Dot
  | _, [] => []
  | p, x :: l => if x = p then ddup p l else x :: ddup x l
def compD : List Dot → List Dot
  | [] => []
  | x :: l => x :: ddup x l
theorem ddup_len : ∀ (p : Dot) (l : List Dot), (ddup p l).length ≤ l.length
  | _, [] => Nat.le_refl _
  | p, x :: l => by
    rw [ddup]
    split
    · have := ddup_len p l; simp; omega
    · have := ddup_len x l; simp; omega
/-! ### Walks -/
theorem dotCmp (a b : Dot) : A.fn 118 [ag (encD a), ag (encD b)] [] = some (.one (iv (cmpD a b)), []) := by
  have h0 := cmpZi a.f0 b.f0
  have h1 := cmpZi a.f1 b.f1
  have h2 := cmpZi a.f2 b.f2
  have h8 := cmpOr [cmpZ a.f0 b.f0, cmpZ a.f1 b.f1, cmpZ a.f2 b.f2] (by simp)
  rw [fn_run hL Try.func118 rfl L118 (by rfl) rfl rfl rfl (by decide)]
  simp only [lZ, List.map_cons, List.map_nil] at h8
  simp [Try.f118, h0, h1, h2, h8]
  rw [if_pos ?q]
  case q => kernel_rfl
  simp [h0, h1, h2, h8]
  rfl
theorem dotOrd (a b : Dot) : A.fn 121 [ag (encD a), ag (encD b)] [] = some (.one (iv (cmpD a b)), []) := by
  have h0 := cmpZi a.f0 b.f0
  have h1 := cmpZi a.f1 b.f1
  have h2 := cmpZi a.f2 b.f2
  have h8 := cmpOr [cmpZ a.f0 b.f0, cmpZ a.f1 b.f1, cmpZ a.f2 b.f2] (by simp)
  rw [fn_run hL Try.func121 rfl L121 (by rfl) rfl rfl rfl (by decide)]
  simp only [lZ, List.map_cons, List.map_nil] at h8
  simp [Try.f121, h0, h1, h2, h8]
  rw [if_pos ?q]
  case q => kernel_rfl
  simp [h0, h1, h2, h8]
  rfl
theorem cmpA_dot (x y : Dot) : cmpA A.fn 118 (encD x) (encD y) = some (cmpD x y) := by
  have h := dotCmp x y
  unfold cmpA
  simp only [ag] at h
  rw [h]
theorem cmpOf_dot (x y : Dot) : cmpOf A.fn 118 (encD x) (encD y) = cmpD x y := by
  unfold cmpOf
  rw [cmpA_dot]
  rfl
theorem tells_dot (l : List Dot) : Tells A.fn 118 (l.map encD) where
  ans x hx y hy := by
    obtain ⟨a, _, rfl⟩ := List.mem_map.1 hx
    obtain ⟨b, _, rfl⟩ := List.mem_map.1 hy
    exact ⟨_, cmpA_dot a b⟩
  irr x hx := by
    obtain ⟨a, _, rfl⟩ := List.mem_map.1 hx
    rw [cmpOf_dot]
    exact ltD_irrefl a
  trans x hx y hy z hz := by
    obtain ⟨a, _, rfl⟩ := List.mem_map.1 hx
    obtain ⟨b, _, rfl⟩ := List.mem_map.1 hy
    obtain ⟨c, _, rfl⟩ := List.mem_map.1 hz
    rw [cmpOf_dot, cmpOf_dot, cmpOf_dot]
    exact ltD_trans
  ntrans x hx y hy z hz := by
    obtain ⟨a, _, rfl⟩ := List.mem_map.1 hx
    obtain ⟨b, _, rfl⟩ := List.mem_map.1 hy
    obtain ⟨c, _, rfl⟩ := List.mem_map.1 hz
    rw [cmpOf_dot, cmpOf_dot, cmpOf_dot]
    intro h1 h2 h3
    have a1 := good_cmpD.anti a b
    have a2 := good_cmpD.anti b c
    have a3 := good_cmpD.anti a c
    have a4 := good_cmpD.anti b a
    have a5 := good_cmpD.anti c b
    have := good_cmpD.trans c b a (by omega) (by omega)
    omega
  total x hx y hy := by
    obtain ⟨a, _, rfl⟩ := List.mem_map.1 hx
    obtain ⟨b, _, rfl⟩ := List.mem_map.1 hy
    rw [cmpOf_dot, cmpOf_dot]
    intro h1 h2
    have a1 := good_cmpD.anti a b
    have a2 := good_cmpD.anti b a
    rw [cmpD_zero a b (by omega)]
theorem sortOf_dot (l : List Dot) : sortOf A.fn 118 (l.map encD) = (sortD l).map encD := by
  unfold sortOf sortD
  exact (List.map_mergeSort (fun a _ b _ => by rw [cmpOf_dot])).symm
abbrev rD (l : List Dot) : AObj := .row true 3 (l.map encD)
theorem sortDots (l : List Dot) (hl : l.length < 1000000000) : A.fn 117 [.at (.row pinN 0), .at (.pv (.fn 118 []))] [rD l] = some (.tup [], [some (rD (sortD l))]) := by
  have h := (lib_run hL L117 [.at (.row pinN 0), .at (.pv (.fn 118 []))] [rD l]).trans (sortF_at (P := Try.prog) (H := A.fn) (g := 118) (k := 3) (xs := l.map encD) ⟨by kernel_rfl, by simp; omega, fun x hx p hp => by
    obtain ⟨a, _, rfl⟩ := List.mem_map.1 hx
    simp at hp
    rcases hp with rfl | rfl | rfl <;> rfl, tells_dot l⟩)
  rw [sortOf_dot] at h
  exact h
/-- The inner loop of Compact: s2 is the row's tail from k0 on. -/
theorem compD_l2 (l : List Dot) (hl : l.length < 1000000000) (k0 : Nat) (hk0 : 1 ≤ k0) (n : Nat) : ∀ (k k2 : Nat) (ys : List Dot), l.length = k0 + k2 + n → 1 ≤ k2 → ys.length = l.length → ys.drop (k0 + k2 - 1) = l.drop (k0 + k2 - 1) → k0 ≤ k → k ≤ k0 + k2 - 1 →
    (h : k0 + k2 - 1 < l.length) → ∃ (zs : List Dot) (k' : Nat), zs.length = l.length ∧ k' ≤ l.length ∧ zs.take k' = ys.take k ++ ddup l[k0 + k2 - 1] (l.drop (k0 + k2)) ∧
    A.lp 119 2 (hd119_2 [.at (.row pinN 0), iv k, .at (.tail pinN 0 k0), iv k2] [(pinN, 0, some (rD ys))]) = some (.exit 2, ex119_2 [.at (.row pinN 0), iv k'] [(pinN, 0, some (rD zs))]) := by
  induction n with
  | zero =>
    intro k k2 ys hn h2 hy hd hk hk' h
    refine ⟨ys, k, hy, by omega, by rw [List.drop_of_length_le (by omega)]; simp [ddup], ?_⟩
    rw [lp_run hL Try.func119 rfl (by rfl) 2 rfl]
    have e : ys.length - k0 = k2 := by omega
    have e2 : k0 ≤ ys.length := by omega
    simp [e, e2]
  | succ n ih =>
    intro k k2 ys hn h2 hy hd hk hk' h
    have h3 : k0 + k2 < l.length := by omega
    have h4 : k0 + k2 < ys.length := by omega
    have h5 : k0 + k2 - 1 < ys.length := by omega
    have h6 : k < ys.length := by omega
    have e0 : k0 + k2 - 1 + 1 = k0 + k2 := by omega
    rw [List.drop_eq_getElem_cons h, List.drop_eq_getElem_cons h5] at hd
    obtain ⟨d1, d2⟩ := List.cons.inj hd
    rw [e0] at d2
    have d2' := d2
    rw [List.drop_eq_getElem_cons h3, List.drop_eq_getElem_cons h4] at d2'
    obtain ⟨d3, d4⟩ := List.cons.inj d2'
    rw [List.drop_eq_getElem_cons h3, ddup]
    have e1 : k2 < ys.length - k0 := by omega
    have e2 : k0 ≤ ys.length := by omega
    have e3 : k0 + (k2 + 1) - 1 = k0 + k2 := by omega
    have hw : IntKind.i64.wrap ((k2 : Int) - 1) = ((k2 - 1 : Nat) : Int) := by rw [wr _ (by omega) (by omega)]; omega
    have e4 : k2 - 1 < ys.length - k0 := by omega
    have e5 : k0 + (k2 - 1) = k0 + k2 - 1 := by omega
    by_cases c : l[k0 + k2] = l[k0 + k2 - 1]
    · rw [if_pos c]
      obtain ⟨zs, k', z1, z2, z3, z4⟩ := ih k (k2 + 1) ys (by omega) (by omega) hy (by rw [e3]; exact d2) hk (by omega) (by omega)
      refine ⟨zs, k', z1, z2, ?_, ?_⟩
      · rw [z3]
        simp only [e3]
        rw [c]
        rfl
      · rw [lp_run hL Try.func119 rfl (by rfl) 2 rfl]
        have q1 : (ys[k0 + k2] = ys[k0 + (k2 - 1)]) = True := by
          refine eq_true ?_
          simp only [e5]
          rw [d3, d1, c]
        have h5' : k0 + (k2 - 1) < ys.length := by omega
        simp [e1, e2, e4, h4, h5', hw, dot_ext, q1] at z4 ⊢
        simp (disch := omega) only [wr]
        exact z4
    · rw [if_neg c]
      obtain ⟨zs, k', z1, z2, z3, z4⟩ := ih (k + 1) (k2 + 1) (ys.set k ys[k0 + k2]) (by omega) (by omega) (by simp [hy]) (by rw [e3, List.drop_set_of_lt (by omega)]; exact d2) (by omega) (by omega) (by omega)
      refine ⟨zs, k', z1, z2, ?_, ?_⟩
      · rw [z3, List.take_succ_eq_append_getElem (by simp; omega), List.take_set_of_le (by omega)]
        simp only [e3, List.getElem_set_self, d3, List.append_assoc, List.singleton_append]
        rfl
      · rw [lp_run hL Try.func119 rfl (by rfl) 2 rfl]
        have q1 : (ys[k0 + k2] = ys[k0 + (k2 - 1)]) = False := by
          refine eq_false ?_
          simp only [e5]
          rw [d3, d1]
          exact c
        have h5' : k0 + (k2 - 1) < ys.length := by omega
        simp only [rD, List.map_set] at z4
        simp [e1, e2, e4, h4, h5', h6, hw, dot_ext, q1] at z4 ⊢
        simp (disch := omega) only [wr]
        exact z4
theorem compD_loop (l : List Dot) (hl : l.length < 1000000000) (n : Nat) : ∀ (k : Nat) (hk : 1 ≤ k), l.length = k + n → (h : k - 1 < l.length) → compD l = l.take k ++ ddup l[k - 1] (l.drop k) →
    (compD l = l ∧ A.lp 119 0 (hd119_0 [.at (.row pinN 0), iv k] [(pinN, 0, some (rD l))]) = some (.exit 0, ex119_0 [.at (.row pinN 0), nov] [(pinN, 0, some (rD l))])) ∨
    A.lp 119 0 (hd119_0 [.at (.row pinN 0), iv k] [(pinN, 0, some (rD l))]) = some (.ret, ex119_0 [.at (.row pinN 0), .at (.row 2001 0)] [(pinN, 0, none), (2001, 0, some (rD (compD l)))]) := by
  induction n with
  | zero =>
    intro k hk hn h hpre
    rw [List.drop_of_length_le (by omega), List.take_of_length_le (by omega)] at hpre
    refine .inl ⟨by simpa [ddup] using hpre, ?_⟩
    rw [lp_run hL Try.func119 rfl (by rfl) 0 rfl]
    obtain rfl : k = l.length := by omega
    simp
  | succ n ih =>
    intro k hk hn h hpre
    have h1 : k < l.length := by omega
    have hw : IntKind.i64.wrap ((k : Int) - 1) = ((k - 1 : Nat) : Int) := by rw [wr _ (by omega) (by omega)]; omega
    have hpre0 := hpre
    rw [List.drop_eq_getElem_cons h1, ddup] at hpre
    by_cases c : l[k] = l[k - 1]
    · rw [if_pos c] at hpre
      refine .inr ?_
      obtain ⟨zs, k', z1, z2, z3, z4⟩ := compD_l2 l hl k hk (l.length - (k + 1)) k 1 l (by omega) (by omega) rfl rfl (by omega) (by omega) (by omega)
      have q1 := eq_true c
      rw [hpre, ← show l.take k ++ ddup l[k + 1 - 1] (l.drop (k + 1)) = l.take k ++ ddup l[k - 1] (l.drop (k + 1)) by simp only [Nat.add_sub_cancel]; rw [c], ← z3]
      have e1 : k ≤ l.length := by omega
      have e2 : ¬ (k : Int) < 0 := by omega
      have e3 : ¬ (k' : Int) < 0 := by omega
      have e4 : k' ≤ zs.length := by omega
      simp at z4
      rw [lp_run hL Try.func119 rfl (by rfl) 0 rfl]
      simp [h1, h, hw, dot_ext, q1, e1, e2, e3, e4, z4]
    · rw [if_neg c] at hpre
      have ih := ih (k + 1) (by omega) (by omega) (by omega) (by
        rw [hpre, show l.take (k + 1) = l.take k ++ [l[k]] from List.take_succ_eq_append_getElem h1, List.append_assoc]
        rfl)
      have q1 := eq_false c
      rcases ih with ⟨i1, i2⟩ | i2
      · refine .inl ⟨i1, ?_⟩
        rw [lp_run hL Try.func119 rfl (by rfl) 0 rfl]
        simp [h1, h, hw, dot_ext, q1] at i2 ⊢
        simp (disch := omega) only [wr]
        exact i2
      · refine .inr ?_
        rw [lp_run hL Try.func119 rfl (by rfl) 0 rfl]
        simp [h1, h, hw, dot_ext, q1] at i2 ⊢
        simp (disch := omega) only [wr]
        exact i2
theorem compDots (l : List Dot) (hl : l.length < 1000000000) : ∃ b, A.fn 119 [.at (.row pinN 0)] [rD l] = some (delR b (rD (compD l))) := by
  match l, hl with
  | [], _ =>
    refine ⟨false, ?_⟩
    rw [fn_run hL Try.func119 rfl L119 (by rfl) rfl rfl rfl (by decide)]
    simp [Try.f119, delR, compD]
  | [x], _ =>
    refine ⟨false, ?_⟩
    rw [fn_run hL Try.func119 rfl L119 (by rfl) rfl rfl rfl (by decide)]
    simp [Try.f119, delR, compD, ddup]
  | x :: y :: l, hl =>
    have hm : 2 ≤ (x :: y :: l).length := by simp
    rcases compD_loop (x :: y :: l) hl (l.length + 1) 1 (by omega) (by simp; omega) (by simp) (by simp [compD]) with ⟨i1, i2⟩ | i2
    · refine ⟨false, ?_⟩
      rw [i1]
      generalize x :: y :: l = m at *
      have e : ¬ (m.length : Int) < 2 := by omega
      rw [fn_run hL Try.func119 rfl L119 (by rfl) rfl rfl rfl (by decide)]
      simp at i2
      simp [Try.f119, delR, i2, e]
    · refine ⟨true, ?_⟩
      generalize x :: y :: l = m at *
      have e : ¬ (m.length : Int) < 2 := by omega
      rw [fn_run hL Try.func119 rfl L119 (by rfl) rfl rfl rfl (by decide)]
      simp at i2
      simp [Try.f119, delR, i2, e]
end Go.E2.S
