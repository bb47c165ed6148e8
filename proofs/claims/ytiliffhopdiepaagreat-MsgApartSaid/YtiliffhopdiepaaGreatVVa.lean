/- VVa: VV1, VFZ, VPV. -/
import Derived.Test.YtiliffhopdiepaaGreatVPlain
import Derived.Test.YtiliffhopdiepaaGreatVIa
import Derived.Test.YtiliffhopdiepaaGreatVFa
import Derived.Test.YtiliffhopdiepaaGreatE14
/-! Vectors: vec.At, Trim, With, Within, Has; slices.Equal, ContainsFunc of numbers. -/
namespace Go.E2.S
open Go Go.E2 Go.RowKit Go.Proofs
set_option linter.unusedVariables false
set_option linter.unusedSimpArgs false
set_option maxHeartbeats 4000000
set_option maxRecDepth 10000
def pos0 (x : Int) : Int := if x < 0 then 0 else x
def atV (v : List Int) (n : Int) : Int := if n < 0 ∨ (v.length : Int) ≤ n then 0 else pos0 (v.getD n.toNat 0)
def cutN (v : List Int) : Nat → Nat
  | 0 => 0
  | n + 1 => if v.getD n 0 ≤ 0 then cutN v n else n + 1
def trimV (v : List Int) : List Int := (v.take (cutN v v.length)).map pos0
def badW (node n : Int) : Bool := decide (node < 0) || decide (8 ≤ node) || decide (n < 0) || decide (1073741824 < n)
def withV (v : List Int) (node n : Int) : List Int := if badW node n = true then [] else trimV ((v ++ List.replicate (node.toNat + 1 - v.length) 0).set node.toNat n)
def withinV (a b : List Int) : Bool := (List.range a.length).all fun i => decide (atV a i ≤ atV b i)
def hasV (v : List Int) (d : Dot) : Bool := decide (1 ≤ d.f1) && decide (d.f1 ≤ atV v d.f0)
abbrev rZ (l : List Int) : AObj := .row true 1 (l.map encZ)
theorem cutN_le (v : List Int) : ∀ n, cutN v n ≤ n
  | 0 => Nat.le_refl _
  | n + 1 => by
    rw [cutN]
    split
    · exact Nat.le_succ_of_le (cutN_le v n)
    · exact Nat.le_refl _
theorem cloneZ (l : List Int) (hl : l.length < 1000000000) : A.fn 172 [pv (lZ l)] [] = some (.one (.at (.row pinN 0)), [some (rZ l)]) :=
  (lib_run hL L172 [pv (lZ l)] []).trans (clone_at A.fn (xs := l.map encZ) (by simp [appLim]; omega))
theorem vecAt (v : List Int) (n : Int) : A.fn 99 [pv (lZ v), iv n] [] = some (.one (iv (atV v n)), []) := by
  unfold atV
  by_cases h : n < 0
  · rw [if_pos (.inl h)]
    rw [fn_run hL Tryz.func99 rfl L99 (by rfl) rfl rfl rfl (by decide)]
    simp [Tryz.f99, h]
  · by_cases h2 : (v.length : Int) ≤ n
    · rw [if_pos (.inr h2)]
      rw [fn_run hL Tryz.func99 rfl L99 (by rfl) rfl rfl rfl (by decide)]
      simp [Tryz.f99, h, h2, -Int.not_lt]
    · rw [if_neg (by omega)]
      obtain ⟨m, rfl⟩ : ∃ m : Nat, n = m := ⟨n.toNat, by omega⟩
      have hm : m < v.length := by omega
      have e : v.getD (m : Int).toNat 0 = v[m] := by rw [Int.toNat_natCast, List.getD_eq_getElem?_getD, List.getElem?_eq_getElem hm]; rfl
      rw [e]
      unfold pos0
      rw [fn_run hL Tryz.func99 rfl L99 (by rfl) rfl rfl rfl (by decide)]
      by_cases h3 : v[m] < 0
      · simp [Tryz.f99, h2, hm, h3, -Int.not_lt]
      · simp [Tryz.f99, h2, hm, h3, -Int.not_lt]
theorem trim_l0 (v : List Int) (hl : v.length < 1000000000) : ∀ n : Nat, n ≤ v.length → A.lp 113 0 (hd113_0 [pv (lZ v), iv n] []) = some (.exit 0, ex113_0 [pv (lZ v), iv (cutN v n)] [])
  | 0, h => by
    rw [lp_run hL Tryz.func113 rfl (by rfl) 0 rfl]
    simp [cutN]
  | n + 1, h => by
    have ih := trim_l0 v hl n (by omega)
    have h1 : n < v.length := by omega
    have e : v.getD n 0 = v[n] := by rw [List.getD_eq_getElem?_getD, List.getElem?_eq_getElem h1]; rfl
    have w : IntKind.i64.wrap ((n : Int) + 1 - 1) = n := by rw [wr _ (by omega) (by omega)]; omega
    have w' : IntKind.i64.wrap (n : Int) = n := wr _ (by omega) (by omega)
    have p0 : (0 : Int) < (n : Int) + 1 := by omega
    rw [cutN, e]
    by_cases c : v[n] ≤ 0
    · rw [if_pos c]
      rw [lp_run hL Tryz.func113 rfl (by rfl) 0 rfl]
      simp at ih
      simp [p0, w, w', h1, c]
      exact ih
    · rw [if_neg c]
      rw [lp_run hL Tryz.func113 rfl (by rfl) 0 rfl]
      simp [p0, w, w', h1, c, -Int.not_le]
theorem trim_l2 (l : List Int) (hl : l.length < 1000000000) (n : Nat) : ∀ (i : Nat) (z : List Int), l.length = i + n → z = (l.take i).map pos0 ++ l.drop i →
    A.lp 113 2 (hd113_2 [.at (.row 2000 0), iv l.length, iv i] [(2000, 0, some (rZ z))]) = some (.exit 2, ex113_2 [.at (.row 2000 0)] [(2000, 0, some (rZ (l.map pos0)))]) := by
  induction n with
  | zero =>
    intro i z hi hz
    obtain rfl : i = l.length := by omega
    rw [List.take_of_length_le (Nat.le_refl _), List.drop_of_length_le (Nat.le_refl _), List.append_nil] at hz
    subst hz
    rw [lp_run hL Tryz.func113 rfl (by rfl) 2 rfl]
    simp
  | succ n ih =>
    intro i z hi hz
    have h1 : i < l.length := by omega
    have hzl : z.length = l.length := by rw [hz, List.length_append, List.length_map, List.length_take, List.length_drop]; omega
    have h2 : i < z.length := by omega
    have hzi : z[i] = l[i] := by
      have e : z[i]? = some l[i] := by
        rw [hz, List.getElem?_append_right (by rw [List.length_map, List.length_take]; omega), List.length_map, List.length_take, List.getElem?_drop, show i + (i - min i l.length) = i by omega, List.getElem?_eq_getElem h1]
      rw [List.getElem?_eq_getElem h2] at e
      exact Option.some.inj e
    have hz2 : z.set i (pos0 l[i]) = (l.take (i + 1)).map pos0 ++ l.drop (i + 1) := by
      have hlen : ((l.take i).map pos0).length = i := by rw [List.length_map, List.length_take]; omega
      rw [hz, List.set_append_right _ _ (by omega), hlen, Nat.sub_self, List.drop_eq_getElem_cons h1, List.set_cons_zero, List.take_succ_eq_append_getElem h1, List.map_append, List.append_assoc]
      rfl
    have ih := ih (i + 1) _ (by omega) hz2
    unfold pos0 at ih
    have w6 : IntKind.i64.wrap ((i : Int) + 1) = i + 1 := wr _ (by omega) (by omega)
    rw [lp_run hL Tryz.func113 rfl (by rfl) 2 rfl]
    simp only [rZ, List.map_set] at ih
    by_cases c : l[i] < 0
    · rw [if_pos c] at ih
      simp [rZ] at ih
      simp [rZ, h1, h2, hzi, c, w6]
      exact ih
    · rw [if_neg c] at ih
      simp [rZ] at ih
      simp [rZ, h1, h2, hzi, c, w6, -Int.not_lt]
      exact ih
theorem vecTrim (v : List Int) (hl : v.length < 1000000000) : A.fn 113 [pv (lZ v)] [] = some (.one (pv (lZ (trimV v))), []) := by
  have hc := cutN_le v v.length
  have h0 := trim_l0 v hl v.length (Nat.le_refl _)
  unfold trimV
  generalize cutN v v.length = k at *
  have htl : (v.take k).length = k := by rw [List.length_take]; omega
  have q := cloneZ (v.take k) (by omega)
  have h2 := trim_l2 (v.take k) (by omega) k 0 (v.take k) (by omega) (by simp)
  rw [htl] at h2
  have c1 : (0 : Int) ≤ k := by omega
  have c2 : (k : Int) ≤ v.length := by omega
  have e1 : min k v.length = k := by omega
  rw [fn_run hL Tryz.func113 rfl L113 (by rfl) rfl rfl rfl (by decide)]
  simp [rZ, lZ] at h0 q h2
  simp [Tryz.f113, h0, q, h2, c1, c2, hc, e1]
theorem trimV_len (v : List Int) : (trimV v).length ≤ v.length := by
  have := cutN_le v v.length
  unfold trimV
  rw [List.length_map, List.length_take]
  omega
theorem with_loop (node : Nat) (n : Int) (hn : node < 8) (k : Nat) : ∀ out : List Int, node + 1 - out.length = k → out.length < 1000000000 →
    A.lp 192 0 (hd192_0 [iv node, iv n, .at (.row 2000 0)] [(2000, 0, some (rZ out))]) = some (.exit 0, ex192_0 [iv node, iv n, .at (.row 2000 0)] [(2000, 0, some (rZ (out ++ List.replicate k 0)))]) := by
  induction k with
  | zero =>
    intro out hk ho
    have c : ¬ (out.length : Int) ≤ node := by omega
    have c' : ¬ out.length ≤ node := by omega
    rw [lp_run hL Tryz.func192 rfl (by rfl) 0 rfl]
    simp [c, c', -Nat.not_le]
  | succ k ih =>
    intro out hk ho
    have c : (out.length : Int) ≤ node := by omega
    have c' : out.length ≤ node := by omega
    have hlim : (out.length + 1) * 9 ≤ 70368744177664 := by omega
    have ih := ih (out ++ [0]) (by rw [List.length_append, List.length_singleton]; omega) (by rw [List.length_append, List.length_singleton]; omega)
    rw [List.append_assoc] at ih
    rw [lp_run hL Tryz.func192 rfl (by rfl) 0 rfl]
    simp [rZ, List.replicate_succ] at ih
    simp [rZ, c, c', hlim, List.replicate_succ]
    exact ih
theorem vecWith (v : List Int) (node n : Int) (hl : v.length < 100000000) : A.fn 192 [pv (lZ v), iv node, iv n] [] = some (.tup [pv (lZ (withV v node n)), iv (if badW node n = true then 1 else 0)], []) := by
  unfold withV
  cases hb : badW node n with
  | true =>
    unfold badW at hb
    rw [fn_run hL Tryz.func192 rfl L192 (by rfl) rfl rfl rfl (by decide)]
    by_cases c1 : node < 0
    · simp [Tryz.f192, c1]
    · by_cases c2 : 8 ≤ node
      · simp [Tryz.f192, c1, c2, -Int.not_lt]
      · by_cases c3 : n < 0
        · simp [Tryz.f192, c1, c2, c3, -Int.not_lt, -Int.not_le]
        · by_cases c4 : 1073741824 < n
          · simp [Tryz.f192, c1, c2, c3, c4, -Int.not_lt, -Int.not_le]
          · simp [c1, c2, c3, c4] at hb
  | false =>
    unfold badW at hb
    simp only [Bool.or_eq_false_iff, decide_eq_false_iff_not] at hb
    obtain ⟨⟨⟨c1, c2⟩, c3⟩, c4⟩ := hb
    obtain ⟨m, rfl⟩ : ∃ m : Nat, node = m := ⟨node.toNat, by omega⟩
    rw [Int.toNat_natCast]
    have q := cloneZ v (by omega)
    have h0 := with_loop m n (by omega) (m + 1 - v.length) v rfl (by omega)
    have hlen : m < (v ++ List.replicate (m + 1 - v.length) 0).length := by rw [List.length_append, List.length_replicate]; omega
    have hlen2 : (v ++ List.replicate (m + 1 - v.length) (0 : Int)).length < 1000000000 := by rw [List.length_append, List.length_replicate]; omega
    have q2 := vecTrim ((v ++ List.replicate (m + 1 - v.length) 0).set m n) (by rw [List.length_set]; omega)
    generalize hz : v ++ List.replicate (m + 1 - v.length) 0 = z at *
    have hlen' : (m : Int) < z.length := by omega
    simp only [lZ, List.map_set] at q2
    rw [fn_run hL Tryz.func192 rfl L192 (by rfl) rfl rfl rfl (by decide)]
    simp [rZ] at q h0
    simp [Tryz.f192, c1, c2, c3, c4, q, h0, hlen, hlen', q2, -Int.not_lt, -Int.not_le]
theorem within_loop (a b : List Int) (ha : a.length < 1000000000) (n : Nat) : ∀ i : Nat, a.length = i + n →
    A.lp 124 0 (hd124_0 [pv (lZ a), pv (lZ b), iv a.length, iv i] []) = some (if (List.range' i n).all (fun i => decide (atV a i ≤ atV b i)) = true then (.exit 0, ex124_0 [nov] []) else (.ret, ex124_0 [bv false] [])) := by
  induction n with
  | zero =>
    intro i hi
    rw [lp_run hL Tryz.func124 rfl (by rfl) 0 rfl]
    obtain rfl : i = a.length := by omega
    simp
  | succ n ih =>
    intro i hi
    have h1 : i < a.length := by omega
    have ih := ih (i + 1) (by omega)
    have q1 := vecAt a i
    have q2 := vecAt b i
    rw [List.range'_succ, List.all_cons]
    generalize atV a i = x at *
    generalize atV b i = y at *
    have w6 : IntKind.i64.wrap ((i : Int) + 1) = i + 1 := wr _ (by omega) (by omega)
    rw [lp_run hL Tryz.func124 rfl (by rfl) 0 rfl]
    by_cases c : x ≤ y
    · have c' : ¬ y < x := by omega
      simp [h1, q1, q2, c, c', w6, -Int.not_lt, -List.all_eq_true]
      simp [-List.all_eq_true] at ih
      exact ih
    · have c' : y < x := by omega
      simp [h1, q1, q2, c, c', -Int.not_le]
theorem vecWithin (a b : List Int) (ha : a.length < 1000000000) : A.fn 124 [pv (lZ a), pv (lZ b)] [] = some (.one (bv (withinV a b)), []) := by
  have h := within_loop a b ha a.length 0 (by omega)
  unfold withinV
  rw [List.range_eq_range']
  rw [fn_run hL Tryz.func124 rfl L124 (by rfl) rfl rfl rfl (by decide)]
  cases c : (List.range' 0 a.length).all (fun i => decide (atV a i ≤ atV b i)) with
  | true =>
    rw [c] at h
    simp at h
    simp [Tryz.f124, h]
  | false =>
    rw [c] at h
    simp at h
    simp [Tryz.f124, h]
theorem vecHas (v : List Int) (d : Dot) : A.fn 26 [pv (lZ v), ag (encD d)] [] = some (.one (bv (hasV v d)), []) := by
  have q := vecAt v d.f0
  unfold hasV
  generalize atV v d.f0 = x at *
  rw [fn_run hL Tryz.func26 rfl L26 (by rfl) rfl rfl rfl (by decide)]
  by_cases c : 1 ≤ d.f1
  · simp [Tryz.f26, c, q]
    rw [if_pos ?q]
    case q => kernel_rfl
    simp [c, q]
  · simp [Tryz.f26, c, q, -Int.not_le]
    rw [if_pos ?q]
    case q => kernel_rfl
    simp [c, q, -Int.not_le]
theorem equalZ_loop (a b : List Int) (hl : a.length = b.length) (ha : a.length < 1000000000) (n : Nat) : ∀ i : Nat, a.length = i + n →
    A.lp 112 0 (hd112_0 [pv (lZ a), pv (lZ b), iv a.length, iv i] []) = some (if a.drop i = b.drop i then (.exit 0, ex112_0 [nov] []) else (.ret, ex112_0 [bv false] [])) := by
  induction n with
  | zero =>
    intro i hi
    rw [lp_run hL Tryz.func112 rfl (by rfl) 0 rfl]
    rw [List.drop_of_length_le (by omega), List.drop_of_length_le (by omega)]
    obtain rfl : i = a.length := by omega
    simp
  | succ n ih =>
    intro i hi
    have h1 : i < a.length := by omega
    have h2 : i < b.length := by omega
    rw [lp_run hL Tryz.func112 rfl (by rfl) 0 rfl]
    have e := drop_eq a b i h1 h2
    have := ih (i + 1) (by omega)
    by_cases h : a[i] = b[i]
    · simp [h1, h2, h, e] at this ⊢
      simp (disch := omega) only [wr]
      exact this
    · simp [h1, h2, h, e]
theorem equalZ (a b : List Int) (ha : a.length < 1000000000) : A.fn 112 [pv (lZ a), pv (lZ b)] [] = some (.one (bv (decide (a = b))), []) := by
  rw [fn_run hL Tryz.func112 rfl L112 (by rfl) rfl rfl rfl (by decide)]
  by_cases hl : a.length = b.length
  · have := equalZ_loop a b hl ha a.length 0 (by omega)
    by_cases h : a = b
    · simp [Tryz.f112, hl, h] at this ⊢
      simp [this]
    · simp [Tryz.f112, hl, h] at this ⊢
      simp [this]
  · have h : a ≠ b := fun e => hl (by rw [e])
    have hl' : ¬ (a.length : Int) = b.length := by omega
    simp [Tryz.f112, hl, hl', h]
end Go.E2.S
/-! slices.IndexFunc, slices.ContainsFunc over a list that stays: Int. -/
namespace Go.E2.S
open Go Go.E2 Go.RowKit Go.Proofs
set_option linter.unusedVariables false
set_option linter.unusedSimpArgs false
set_option maxHeartbeats 1000000
set_option maxRecDepth 10000
theorem idxZ_loop (l : List Int) (f : FuncId) (cs : List PV) (p : Int → Bool) (hf : env.fns f = true) (hl : l.length < 1000000000) (hp : ∀ x ∈ l, A.fn f (iv x :: cs.map fun p => .at (.pv p)) [] = some (.one (bv (p x)), [])) (n : Nat) : ∀ i : Nat, l.length = i + n →
    A.lp 188 0 (hd188_0 [pv (lZ l), pv (.fn f cs), iv l.length, iv i] []) =
      some (if (l.drop i).any p = true then (.ret, ex188_0 [iv (i + (l.drop i).findIdx p : Nat)] []) else (.exit 0, ex188_0 [nov] [])) := by
  induction n with
  | zero =>
    intro i hi
    rw [lp_run hL Tryz.func188 rfl (by rfl) 0 rfl]
    obtain rfl : i = l.length := by omega
    simp
  | succ n ih =>
    intro i hi
    have h1 : i < l.length := by omega
    have ih := ih (i + 1) (by omega)
    have hx := hp l[i] (List.getElem_mem h1)
    rw [lp_run hL Tryz.func188 rfl (by rfl) 0 rfl]
    rw [List.drop_eq_getElem_cons h1, List.any_cons, findI_cons]
    cases c : p l[i] with
    | true =>
      rw [c] at hx
      simp [h1, hx, hf]
    | false =>
      rw [c] at hx
      simp [h1, hx, hf, -List.any_eq_true]
      simp (disch := omega) only [wr]
      refine ih.trans ?_
      cases (l.drop (i + 1)).any p <;> simp [Nat.add_assoc, Nat.add_comm 1]
theorem idxZ (l : List Int) (f : FuncId) (cs : List PV) (p : Int → Bool) (hf : env.fns f = true) (hl : l.length < 1000000000) (hp : ∀ x ∈ l, A.fn f (iv x :: cs.map fun p => .at (.pv p)) [] = some (.one (bv (p x)), [])) :
    A.fn 188 [pv (lZ l), pv (.fn f cs)] [] = some (.one (iv (idxL p l)), []) := by
  have h := idxZ_loop l f cs p hf hl hp l.length 0 (by omega)
  rw [fn_run hL Tryz.func188 rfl L188 (by rfl) rfl rfl rfl (by decide)]
  unfold idxL
  cases c : l.any p with
  | true =>
    simp [Tryz.f188, c] at h ⊢
    simp [h]
  | false =>
    simp [Tryz.f188, c] at h ⊢
    simp [h]
theorem hasZ (l : List Int) (f : FuncId) (cs : List PV) (p : Int → Bool) (hf : env.fns f = true) (hl : l.length < 1000000000) (hp : ∀ x ∈ l, A.fn f (iv x :: cs.map fun p => .at (.pv p)) [] = some (.one (bv (p x)), [])) :
    A.fn 114 [pv (lZ l), pv (.fn f cs)] [] = some (.one (bv (l.any p)), []) := by
  have h := idxZ l f cs p hf hl hp
  rw [fn_run hL Tryz.func114 rfl L114 (by rfl) rfl rfl rfl (by decide)]
  unfold idxL at h
  cases c : l.any p with
  | true =>
    rw [c] at h
    simp at h
    simp [Tryz.f114, h]
  | false =>
    rw [c] at h
    simp at h
    simp [Tryz.f114, h]
end Go.E2.S
/-! Plain law: vectors. -/
namespace Go.E2.S
open Go Go.E2 Go.RowKit Go.Proofs
set_option linter.unusedVariables false
set_option linter.unusedSimpArgs false
theorem pos0_nn (x : Int) : 0 ≤ pos0 x := by unfold pos0; split <;> omega
theorem pos0_id {x : Int} (h : 0 ≤ x) : pos0 x = x := by unfold pos0; rw [if_neg (by omega)]
theorem pos0_pos0 (x : Int) : pos0 (pos0 x) = pos0 x := pos0_id (pos0_nn x)
theorem atV_nat (v : List Int) (i : Nat) : atV v i = pos0 (v.getD i 0) := by
  unfold atV
  split
  · rename_i h
    rw [List.getD_eq_getElem?_getD, List.getElem?_eq_none (by omega)]
    rfl
  · rw [Int.toNat_natCast]
theorem atV_neg (v : List Int) {n : Int} (h : n < 0) : atV v n = 0 := if_pos (.inl h)
theorem atV_nn (v : List Int) (n : Int) : 0 ≤ atV v n := by
  unfold atV
  split
  · exact Int.le_refl _
  · exact pos0_nn _
theorem atV_out (v : List Int) {i : Nat} (h : v.length ≤ i) : atV v i = 0 := if_pos (.inr (by omega))
theorem atV_in (v : List Int) {i : Nat} (h : i < v.length) : atV v i = pos0 v[i] := by
  rw [atV_nat, List.getD_eq_getElem?_getD, List.getElem?_eq_getElem h]
  rfl
theorem atV_lt (v : List Int) {n : Int} (h : 0 < atV v n) : 0 ≤ n ∧ n < v.length := by
  unfold atV at h
  split at h
  · omega
  · omega
theorem ext_at {a b : List Int} (h : ∀ i : Nat, atV a i = atV b i) (n : Int) : atV a n = atV b n := by
  by_cases c : n < 0
  · rw [atV_neg a c, atV_neg b c]
  · obtain ⟨i, rfl⟩ : ∃ i : Nat, n = i := ⟨n.toNat, by omega⟩
    exact h i
theorem cutN_out (v : List Int) : ∀ (n i : Nat), cutN v n ≤ i → i < n → atV v i = 0
  | 0, i, h, h2 => by omega
  | n + 1, i, h, h2 => by
    rw [cutN] at h
    split at h
    · rename_i c
      by_cases e : i = n
      · rw [e, atV_nat]
        unfold pos0
        split
        · rfl
        · omega
      · exact cutN_out v n i h (by omega)
    · omega
theorem cutN_last (v : List Int) : ∀ n : Nat, 0 < cutN v n → 0 < atV v ((cutN v n - 1 : Nat) : Int)
  | 0, h => by simp [cutN] at h
  | n + 1, h => by
    rw [cutN] at h ⊢
    split
    · rename_i c
      rw [if_pos c] at h
      exact cutN_last v n h
    · rename_i c
      rw [Nat.add_sub_cancel, atV_nat, pos0_id (by omega)]
      omega
theorem trimV_map (v : List Int) : trimV v = (List.range (cutN v v.length)).map fun (i : Nat) => atV v i := by
  have hc := cutN_le v v.length
  refine List.ext_getElem (by simp [trimV]; omega) fun i h1 h2 => ?_
  have h3 : i < cutN v v.length := by simpa using h2
  simp only [trimV, List.getElem_map, List.getElem_take, List.getElem_range]
  rw [atV_in v (by omega)]
theorem trimV_length (v : List Int) : (trimV v).length = cutN v v.length := by rw [trimV_map]; simp
theorem atV_trimN (v : List Int) (i : Nat) : atV (trimV v) i = atV v i := by
  by_cases h : i < cutN v v.length
  · rw [atV_in _ (by rw [trimV_length]; exact h)]
    simp only [trimV_map, List.getElem_map, List.getElem_range]
    exact pos0_id (atV_nn v i)
  · rw [atV_out _ (by rw [trimV_length]; omega)]
    by_cases h2 : i < v.length
    · exact (cutN_out v _ i (by omega) h2).symm
    · exact (atV_out v (by omega)).symm
theorem atV_trim (v : List Int) (n : Int) : atV (trimV v) n = atV v n := ext_at (atV_trimN v) n
theorem trimV_ext {a b : List Int} (h : ∀ i : Nat, atV a i = atV b i) : trimV a = trimV b := by
  have key : ∀ {a b : List Int}, (∀ i : Nat, atV a i = atV b i) → cutN a a.length ≤ cutN b b.length := by
    intro a b h
    by_cases c : cutN a a.length ≤ cutN b b.length
    · exact c
    · exfalso
      have k := cutN_last a a.length (by omega)
      rw [h] at k
      have hl := (atV_lt b k).2
      have := cutN_out b b.length (cutN a a.length - 1) (by omega) (by omega)
      omega
  have e : cutN a a.length = cutN b b.length := Nat.le_antisymm (key h) (key fun i => (h i).symm)
  rw [trimV_map, trimV_map, e]
  exact List.map_congr_left fun i _ => h i
theorem trimV_trim (v : List Int) : trimV (trimV v) = trimV v := trimV_ext (atV_trimN v)
/-- A vector in its one form. -/
def CanV (v : List Int) : Prop := trimV v = v
theorem can_trim (v : List Int) : CanV (trimV v) := trimV_trim v
theorem can_nil : CanV [] := rfl
theorem can_ext {a b : List Int} (ha : CanV a) (hb : CanV b) (h : ∀ i : Nat, atV a i = atV b i) : a = b := by
  rw [← ha, ← hb, trimV_ext h]
theorem atV_app (v : List Int) (k : Nat) (i : Nat) : atV (v ++ List.replicate k 0) i = atV v i := by
  rw [atV_nat, atV_nat]
  congr 1
  simp only [List.getD_eq_getElem?_getD]
  by_cases h : i < v.length
  · rw [List.getElem?_append_left h]
  · rw [List.getElem?_append_right (by omega), List.getElem?_eq_none (by omega : v.length ≤ i), List.getElem?_replicate]
    split <;> rfl
theorem atV_set (v : List Int) (j : Nat) (n : Int) (hj : j < v.length) (i : Nat) : atV (v.set j n) i = if i = j then pos0 n else atV v i := by
  rw [atV_nat, atV_nat]
  simp only [List.getD_eq_getElem?_getD, List.getElem?_set]
  by_cases h : i = j
  · subst h
    simp [hj]
  · have h' : ¬ j = i := fun e => h e.symm
    simp [h, h']
theorem atV_withN {v : List Int} {node n : Int} (h : badW node n = false) (i : Nat) : atV (withV v node n) i = if (i : Int) = node then n else atV v i := by
  unfold withV
  rw [h, if_neg (by simp)]
  simp only [badW, Bool.or_eq_false_iff, decide_eq_false_iff_not] at h
  obtain ⟨⟨⟨h1, h2⟩, h3⟩, h4⟩ := h
  rw [atV_trimN, atV_set _ _ _ (by rw [List.length_append, List.length_replicate]; omega), atV_app]
  by_cases c : (i : Int) = node
  · rw [if_pos (by omega), if_pos c, pos0_id (by omega)]
  · rw [if_neg (by omega), if_neg c]
theorem atV_with {v : List Int} {node n : Int} (h : badW node n = false) (m : Int) : atV (withV v node n) m = if m = node then n else atV v m := by
  by_cases c : m < 0
  · have : ¬ m = node := by
      simp only [badW, Bool.or_eq_false_iff, decide_eq_false_iff_not] at h
      omega
    rw [atV_neg _ c, if_neg this, atV_neg _ c]
  · obtain ⟨i, rfl⟩ : ∃ i : Nat, m = i := ⟨m.toNat, by omega⟩
    exact atV_withN h i
theorem can_with (v : List Int) (node n : Int) : CanV (withV v node n) := by
  unfold withV
  split
  · exact can_nil
  · exact can_trim _
/-! ### Both -/
def layV (up : Bool) (a b : List Int) : List Int := trimV ((List.range (max a.length b.length)).map fun (i : Nat) => if up = true then max (atV a i) (atV b i) else min (atV a i) (atV b i))
theorem atV_rangeMap (g : Nat → Int) (k i : Nat) (hg : ∀ i, 0 ≤ g i) (h0 : k ≤ i → g i = 0) : atV ((List.range k).map g) i = g i := by
  by_cases h : i < k
  · rw [atV_in _ (by simpa using h)]
    simp only [List.getElem_map, List.getElem_range]
    exact pos0_id (hg i)
  · rw [atV_out _ (by simp; omega), h0 (by omega)]
theorem atV_layN (up : Bool) (a b : List Int) (i : Nat) : atV (layV up a b) i = if up = true then max (atV a i) (atV b i) else min (atV a i) (atV b i) := by
  unfold layV
  rw [atV_trimN, atV_rangeMap]
  · intro i
    have := atV_nn a i
    have := atV_nn b i
    split <;> omega
  · intro h
    rw [atV_out a (by omega), atV_out b (by omega)]
    split <;> rfl
theorem atV_lay (up : Bool) (a b : List Int) (n : Int) : atV (layV up a b) n = if up = true then max (atV a n) (atV b n) else min (atV a n) (atV b n) := by
  by_cases c : n < 0
  · rw [atV_neg _ c, atV_neg _ c, atV_neg _ c]
    split <;> rfl
  · obtain ⟨i, rfl⟩ : ∃ i : Nat, n = i := ⟨n.toNat, by omega⟩
    exact atV_layN up a b i
theorem can_lay (up : Bool) (a b : List Int) : CanV (layV up a b) := can_trim _
theorem within_iff (a b : List Int) : withinV a b = true ↔ ∀ n : Int, atV a n ≤ atV b n := by
  unfold withinV
  rw [List.all_eq_true]
  constructor
  · intro h n
    by_cases c : 0 < atV a n
    · have k := atV_lt a c
      have := h n.toNat (by rw [List.mem_range]; omega)
      rw [Int.toNat_of_nonneg k.1] at this
      simpa using this
    · have := atV_nn b n
      have := atV_nn a n
      omega
  · intro h i _
    simpa using h i
theorem within_refl (a : List Int) : withinV a a = true := (within_iff a a).2 fun n => Int.le_refl _
theorem within_trans {a b c : List Int} (h : withinV a b = true) (k : withinV b c = true) : withinV a c = true :=
  (within_iff a c).2 fun n => Int.le_trans ((within_iff a b).1 h n) ((within_iff b c).1 k n)
theorem within_anti {a b : List Int} (ha : CanV a) (hb : CanV b) (h : withinV a b = true) (k : withinV b a = true) : a = b :=
  can_ext ha hb fun i => Int.le_antisymm ((within_iff a b).1 h i) ((within_iff b a).1 k i)
/-- The document's Same of vectors. -/
def sameV (a b : List Int) : Bool := (List.range (max a.length b.length)).all fun i => decide (atV a i = atV b i)
theorem sameV_iff (a b : List Int) : sameV a b = true ↔ ∀ i : Nat, atV a i = atV b i := by
  unfold sameV
  rw [List.all_eq_true]
  constructor
  · intro h i
    by_cases c : i < max a.length b.length
    · simpa using h i (by rw [List.mem_range]; exact c)
    · rw [atV_out a (by omega), atV_out b (by omega)]
  · intro h i _
    simpa using h i
theorem within_lay (a b : List Int) : sameV (layV true a b) b = withinV a b := by
  rw [Bool.eq_iff_iff, sameV_iff, within_iff]
  constructor
  · intro h n
    by_cases c : n < 0
    · rw [atV_neg _ c, atV_neg _ c]
      exact Int.le_refl _
    · obtain ⟨i, rfl⟩ : ∃ i : Nat, n = i := ⟨n.toNat, by omega⟩
      have := h i
      rw [atV_layN, if_pos rfl] at this
      omega
  · intro h i
    have := h i
    rw [atV_layN, if_pos rfl]
    omega
theorem with_lay {v : List Int} {node n : Int} (h : badW node n = false) : withV v node n = trimV ((List.range (max v.length (node.toNat + 1))).map fun (i : Nat) => if (i : Int) = node then n else atV v i) := by
  refine can_ext (can_with v node n) (can_trim _) fun i => ?_
  rw [atV_withN h, atV_trimN, atV_rangeMap]
  · intro i
    have := atV_nn v i
    simp only [badW, Bool.or_eq_false_iff, decide_eq_false_iff_not] at h
    split <;> omega
  · intro hi
    rw [if_neg (by omega), atV_out v (by omega)]
end Go.E2.S
