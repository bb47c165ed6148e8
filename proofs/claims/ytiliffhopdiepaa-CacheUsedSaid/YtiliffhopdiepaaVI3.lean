/- item.Norm: SortFunc by item.compare; DeleteFunc with a function value that holds a map. -/
import Derived.Test.YtiliffhopdiepaaVIa
namespace Go.E2.S
open Go Go.E2 Go.RowKit Go.Proofs
set_option linter.unusedVariables false
set_option linter.unusedSimpArgs false
set_option maxHeartbeats 1000000
set_option maxRecDepth 10000
/-! ### The order -/
theorem cmpA_item (x y : Item) : cmpA A.fn 39 (encI x) (encI y) = some (cmpI x y) := by
  have h := itemCmp x y
  unfold cmpA
  simp only [ag] at h
  rw [h]
theorem cmpOf_item (x y : Item) : cmpOf A.fn 39 (encI x) (encI y) = cmpI x y := by
  unfold cmpOf
  rw [cmpA_item]
  rfl
theorem tells_item (l : List Item) : Tells A.fn 39 (l.map encI) where
  ans x hx y hy := by
    obtain ⟨a, _, rfl⟩ := List.mem_map.1 hx
    obtain ⟨b, _, rfl⟩ := List.mem_map.1 hy
    exact ⟨_, cmpA_item a b⟩
  irr x hx := by
    obtain ⟨a, _, rfl⟩ := List.mem_map.1 hx
    rw [cmpOf_item]
    exact lt_irreflI a
  trans x hx y hy z hz := by
    obtain ⟨a, _, rfl⟩ := List.mem_map.1 hx
    obtain ⟨b, _, rfl⟩ := List.mem_map.1 hy
    obtain ⟨c, _, rfl⟩ := List.mem_map.1 hz
    rw [cmpOf_item, cmpOf_item, cmpOf_item]
    exact lt_transI
  ntrans x hx y hy z hz := by
    obtain ⟨a, _, rfl⟩ := List.mem_map.1 hx
    obtain ⟨b, _, rfl⟩ := List.mem_map.1 hy
    obtain ⟨c, _, rfl⟩ := List.mem_map.1 hz
    rw [cmpOf_item, cmpOf_item, cmpOf_item]
    intro h1 h2 h3
    have a1 := good_cmpI.anti a b
    have a2 := good_cmpI.anti b c
    have a3 := good_cmpI.anti a c
    have a4 := good_cmpI.anti b a
    have a5 := good_cmpI.anti c b
    have := good_cmpI.trans c b a (by omega) (by omega)
    omega
  total x hx y hy := by
    obtain ⟨a, _, rfl⟩ := List.mem_map.1 hx
    obtain ⟨b, _, rfl⟩ := List.mem_map.1 hy
    rw [cmpOf_item, cmpOf_item]
    intro h1 h2
    have a1 := good_cmpI.anti a b
    have a2 := good_cmpI.anti b a
    rw [cmpI_zero a b (by omega)]
theorem sortOf_item (l : List Item) : sortOf A.fn 39 (l.map encI) = (sortI l).map encI := by
  unfold sortOf sortI
  exact (List.map_mergeSort (fun a _ b _ => by rw [cmpOf_item])).symm
theorem sortItem (l : List Item) (hl : l.length < 1000000000) : A.fn 38 [.at (.row pinN 0), .at (.pv (.fn 39 []))] [rI l] = some (.tup [], [some (rI (sortI l))]) := by
  have h := (lib_run hL L38 [.at (.row pinN 0), .at (.pv (.fn 39 []))] [rI l]).trans (sortF_at (P := Try.prog) (H := A.fn) (g := 39) (k := 8) (xs := l.map encI) ⟨by kernel_rfl, by simp; omega, fun x hx p hp => by
    obtain ⟨a, _, rfl⟩ := List.mem_map.1 hx
    simp at hp
    rcases hp with rfl | rfl | rfl | rfl | rfl | rfl | rfl | rfl <;> rfl, tells_item l⟩)
  rw [sortOf_item] at h
  exact h
/-! ### What has been seen -/
def dotT (d : Dot) : D3 := (d.f0, d.f1, d.f2)
theorem dotT_inj {a b : Dot} (h : dotT a = dotT b) : a = b := by
  obtain ⟨a0, a1, a2⟩ := a
  obtain ⟨b0, b1, b2⟩ := b
  simp only [dotT, Prod.mk.injEq] at h
  rw [h.1, h.2.1, h.2.2]
/-- Without those that have been seen, dots as keys of a map. -/
def keepA : List D3 → List Item → List Item
  | _, [] => []
  | s, x :: l => if dotT x.f5 ∈ s then keepA (addD s (dotT x.f5)) l else x :: keepA (addD s (dotT x.f5)) l
theorem keepA_keepN : ∀ (l : List Item) (s : List Dot), keepA (s.map dotT) l = keepN s l
  | [], s => rfl
  | x :: l, s => by
    have hm : dotT x.f5 ∈ s.map dotT ↔ x.f5 ∈ s := ⟨fun h => by obtain ⟨d, hd, e⟩ := List.mem_map.1 h; rw [← dotT_inj e]; exact hd, List.mem_map_of_mem⟩
    rw [keepA, keepN]
    by_cases c : x.f5 ∈ s
    · rw [if_pos (hm.2 c), if_pos c, ← keepA_keepN l s]
      unfold addD
      rw [if_pos (hm.2 c)]
    · rw [if_neg (fun h => c (hm.1 h)), if_neg c, ← keepA_keepN l (s ++ [x.f5])]
      unfold addD
      rw [if_neg (fun h => c (hm.1 h)), List.map_append]
      rfl
theorem keepA_len : ∀ (l : List Item) (s : List D3), (keepA s l).length ≤ l.length
  | [], _ => Nat.le_refl _
  | x :: l, s => by
    have := keepA_len l (addD s (dotT x.f5))
    rw [keepA]
    split <;> simp <;> omega
theorem norm1 (x : Item) (ds : List D3) : A.fn 40 [ag (encI x), .at (.ptr (pinN + 1) 0 0)] [.map ds, .blk [.ptr pinN 0 cloN]] = some (.one (bv (decide (dotT x.f5 ∈ ds))), [some (.map (addD ds (dotT x.f5))), some (.blk [.ptr pinN 0 cloN])]) := by
  rw [fn_run hL Try.func40 rfl L40 (by rfl) rfl rfl rfl (by decide)]
  simp [Try.f40, dotT]
  congr
abbrev clN : V1 := .at (.ptr (pinN + 2) 0 (cloN * (40 + 2)))
abbrev oN (r : AObj) (s : List D3) : List Upd := [(pinN, 0, some r), (pinN + 1, 0, some (.map s)), (pinN + 2, 0, some (.blk [.ptr (pinN + 1) 0 cloN]))]
theorem idxN_loop (l : List Item) (hl : l.length < 1000000000) (n : Nat) : ∀ (i : Nat) (s : List D3), l.length = i + n →
    (∃ s', A.lp 46 0 (hd46_0 [.at (.row pinN 0), clN, iv l.length, iv i] (oN (rI l) s)) = some (.exit 0, ex46_0 [nov] (oN (rI l) s')) ∧ keepA s (l.drop i) = l.drop i) ∨
    ∃ s' k, i ≤ k ∧ k < l.length ∧ A.lp 46 0 (hd46_0 [.at (.row pinN 0), clN, iv l.length, iv i] (oN (rI l) s)) = some (.ret, ex46_0 [iv k] (oN (rI l) s')) ∧ keepA s (l.drop i) = (l.take k).drop i ++ keepA s' (l.drop (k + 1)) := by
  induction n with
  | zero =>
    intro i s hi
    obtain rfl : i = l.length := by omega
    refine .inl ⟨s, ?_, by simp [keepA]⟩
    rw [lp_run hL Try.func46 rfl (by rfl) 0 rfl]
    simp
  | succ n ih =>
    intro i s hi
    have h1 : i < l.length := by omega
    have hx := norm1 l[i] s
    have ih := ih (i + 1) (addD s (dotT l[i].f5)) (by omega)
    simp only [ag, encI, List.map_cons, List.map_nil, pinN, cloN, Nat.reduceAdd] at hx
    rw [List.drop_eq_getElem_cons h1, keepA]
    by_cases c : dotT l[i].f5 ∈ s
    · rw [decide_eq_true c] at hx
      refine .inr ⟨addD s (dotT l[i].f5), i, Nat.le_refl _, h1, ?_, ?_⟩
      · rw [lp_run hL Try.func46 rfl (by rfl) 0 rfl]
        simp [h1, hx, oN, clN]
      · rw [if_pos c, List.drop_take, Nat.sub_self, List.take_zero, List.nil_append]
    · rw [decide_eq_false c] at hx
      rw [if_neg c]
      rcases ih with ⟨s', q1, q2⟩ | ⟨s', k, q0, q1, q2, q3⟩
      · refine .inl ⟨s', ?_, by rw [q2]⟩
        rw [lp_run hL Try.func46 rfl (by rfl) 0 rfl]
        simp [h1, hx, oN, clN] at q1 ⊢
        simp (disch := omega) only [wr]
        exact q1
      · refine .inr ⟨s', k, by omega, q1, ?_, ?_⟩
        · rw [lp_run hL Try.func46 rfl (by rfl) 0 rfl]
          simp [h1, hx, oN, clN] at q2 ⊢
          simp (disch := omega) only [wr]
          exact q2
        · rw [q3, ← List.cons_append]
          congr 1
          have e := List.drop_eq_getElem_cons (show i < (l.take k).length by rw [List.length_take]; omega)
          rw [e, List.getElem_take]
theorem idxN (l : List Item) (hl : l.length < 1000000000) (s : List D3) :
    (∃ s', A.fn 46 [.at (.row pinN 0), clN] [rI l, .map s, .blk [.ptr (pinN + 1) 0 cloN]] = some (.one (iv (-1)), [some (rI l), some (.map s'), some (.blk [.ptr (pinN + 1) 0 cloN])]) ∧ keepA s l = l) ∨
    ∃ s' k, k < l.length ∧ A.fn 46 [.at (.row pinN 0), clN] [rI l, .map s, .blk [.ptr (pinN + 1) 0 cloN]] = some (.one (iv (k : Nat)), [some (rI l), some (.map s'), some (.blk [.ptr (pinN + 1) 0 cloN])]) ∧ keepA s l = l.take k ++ keepA s' (l.drop (k + 1)) := by
  rcases idxN_loop l hl l.length 0 s (by omega) with ⟨s', q1, q2⟩ | ⟨s', k, q0, q1, q2, q3⟩
  · refine .inl ⟨s', ?_, q2⟩
    rw [fn_run hL Try.func46 rfl L46 (by rfl) rfl rfl rfl (by decide)]
    simp [oN, clN] at q1 ⊢
    simp [Try.f46, q1]
  · refine .inr ⟨s', k, q1, ?_, q3⟩
    rw [fn_run hL Try.func46 rfl L46 (by rfl) rfl rfl rfl (by decide)]
    simp [oN, clN] at q2 ⊢
    simp [Try.f46, q2]
theorem delN_loop (l : List Item) (hl : l.length < 1000000000) (n : Nat) : ∀ (j c : Nat) (ys : List Item) (s : List D3), l.length = j + n → ys.length = l.length → ys.drop j = l.drop j → c ≤ j →
    ∃ (zs : List Item) (s' : List D3), zs.length = l.length ∧ zs.take (c + (keepA s (l.drop j)).length) = ys.take c ++ keepA s (l.drop j) ∧ A.lp 29 0 (hd29_0 [.at (.row pinN 0), clN, iv c, iv j] (oN (rI ys) s)) =
      some (.exit 0, ex29_0 [.at (.row pinN 0), iv (c + (keepA s (l.drop j)).length : Nat)] (oN (rI zs) s')) := by
  induction n with
  | zero =>
    intro j c ys s hj hy hd hc
    obtain rfl : j = l.length := by omega
    refine ⟨ys, s, hy, by simp [keepA], ?_⟩
    rw [lp_run hL Try.func29 rfl (by rfl) 0 rfl]
    simp [hy, keepA, oN, clN]
  | succ n ih =>
    intro j c ys s hj hy hd hc
    have h1 : j < l.length := by omega
    have h2 : j < ys.length := by omega
    have h3 : c < ys.length := by omega
    have hx := norm1 ys[j] s
    rw [List.drop_eq_getElem_cons h1, List.drop_eq_getElem_cons h2] at hd
    obtain ⟨e, hd⟩ := List.cons.inj hd
    rw [List.drop_eq_getElem_cons h1, ← e, keepA]
    simp only [ag, encI, List.map_cons, List.map_nil, pinN, cloN, Nat.reduceAdd] at hx
    by_cases q : dotT ys[j].f5 ∈ s
    · rw [decide_eq_true q] at hx
      obtain ⟨zs, s', z1, z2, z3⟩ := ih (j + 1) c ys (addD s (dotT ys[j].f5)) (by omega) hy hd (by omega)
      rw [if_pos q]
      refine ⟨zs, s', z1, z2, ?_⟩
      rw [lp_run hL Try.func29 rfl (by rfl) 0 rfl]
      simp [h2, hx, oN, clN] at z3 ⊢
      simp (disch := omega) only [wr]
      exact z3
    · rw [decide_eq_false q] at hx
      obtain ⟨zs, s', z1, z2, z3⟩ := ih (j + 1) (c + 1) (ys.set c ys[j]) (addD s (dotT ys[j].f5)) (by omega) (by simp [hy]) (by rw [List.drop_set_of_lt (by omega)]; exact hd) (by omega)
      rw [if_neg q, List.length_cons, Nat.add_comm _ 1, ← Nat.add_assoc]
      refine ⟨zs, s', z1, ?_, ?_⟩
      · rw [z2, List.take_succ_eq_append_getElem (by simp; omega)]
        rw [List.take_set_of_le (by omega)]
        simp
      rw [lp_run hL Try.func29 rfl (by rfl) 0 rfl]
      simp only [rI, List.map_set] at z3
      simp [h2, h3, hx, oN, clN] at z3 ⊢
      simp (disch := omega) only [wr]
      exact z3
def delNR (b : Bool) (r : AObj) (s : List D3) : Res := match b with
  | true => (.one (.at (.row (pinN + 3) 0)), [none, some (.map s), some (.blk [.ptr (pinN + 1) 0 cloN]), some r])
  | false => (.one (.at (.row pinN 0)), [some r, some (.map s), some (.blk [.ptr (pinN + 1) 0 cloN])])
theorem delN (l : List Item) (hl : l.length < 1000000000) (s : List D3) :
    ∃ b s', A.fn 29 [.at (.row pinN 0), clN] [rI l, .map s, .blk [.ptr (pinN + 1) 0 cloN]] = some (delNR b (rI (keepA s l)) s') := by
  rcases idxN l hl s with ⟨s', q1, q2⟩ | ⟨s', k, q0, q1, q2⟩
  · refine ⟨false, s', ?_⟩
    rw [q2]
    rw [fn_run hL Try.func29 rfl L29 (by rfl) rfl rfl rfl (by decide)]
    simp only [rI, clN, pinN, cloN, Nat.reduceAdd, Nat.reduceMul] at q1
    simp [Try.f29, q1, delNR, clN]
  · obtain ⟨zs, s2, z1, z2, z3⟩ := delN_loop l hl (l.length - (k + 1)) (k + 1) k l s' (by omega) rfl rfl (by omega)
    refine ⟨true, s2, ?_⟩
    rw [q2, ← z2]
    have hm := keepA_len (l.drop (k + 1)) s'
    rw [List.length_drop] at hm
    obtain ⟨m, hm'⟩ : ∃ m, k + (keepA s' (l.drop (k + 1))).length = m := ⟨_, rfl⟩
    rw [hm'] at z3 ⊢
    have hz : m ≤ zs.length := by omega
    have e1 : ¬ (k : Int) = -1 := by omega
    have e2 : ¬ (m : Int) < 0 := by omega
    rw [fn_run hL Try.func29 rfl L29 (by rfl) rfl rfl rfl (by decide)]
    simp only [rI, clN, pinN, cloN, Nat.reduceAdd, Nat.reduceMul] at q1
    simp [oN, clN] at z3
    simp [Try.f29, q1, clN]
    simp (disch := omega) only [wr]
    simp [z3, e1, e2, hz, delNR]
theorem itemNorm (l : List Item) (hl : l.length < 1000000000) : A.fn 18 [pv (lI l)] [] = some (.one (.at (.row pinN 0)), [some (rI (normL l))]) := by
  have h1 := (lib_run hL L37 [pv (lI l)] []).trans (clone_at A.fn (xs := l.map encI) (by simp [appLim]; omega))
  have h2 := sortItem l hl
  obtain ⟨b, s', h3⟩ := delN (sortI l) (by unfold sortI; simpa using hl) []
  rw [show keepA [] (sortI l) = normL l from keepA_keepN (sortI l) []] at h3
  rw [fn_run hL Try.func18 rfl L18 (by rfl) rfl rfl rfl (by decide)]
  simp only [rI, clN, pinN, cloN, Nat.reduceAdd, Nat.reduceMul, lI] at h1 h2 h3
  cases b <;> (simp only [delNR] at h3; simp [Try.f18, h1, h2, h3])
end Go.E2.S
