/- VIc: VI3, VI6, VI7, VI8, VI9. -/
import Derived.Test.YtiliffhopdiepaaGreatVIa
import Derived.Test.YtiliffhopdiepaaGreatVFb
import Derived.Test.YtiliffhopdiepaaGreatVIb
import Derived.Test.YtiliffhopdiepaaGreatVFa
/-! item.Norm: SortFunc by item.compare; DeleteFunc with a function value that holds a map. -/
namespace Go.E2.S
open Go Go.E2 Go.RowKit Go.Proofs
set_option linter.unusedVariables false
set_option linter.unusedSimpArgs false
set_option maxHeartbeats 1000000
set_option maxRecDepth 10000
/-! ### The order -/
theorem cmpA_item (x y : Item) : cmpA A.fn 143 (encI x) (encI y) = some (cmpI x y) := by
  have h := itemCmp x y
  unfold cmpA
  simp only [ag] at h
  rw [h]
theorem cmpOf_item (x y : Item) : cmpOf A.fn 143 (encI x) (encI y) = cmpI x y := by
  unfold cmpOf
  rw [cmpA_item]
  rfl
theorem tells_item (l : List Item) : Tells A.fn 143 (l.map encI) where
  ans x hx y hy := by
    obtain ⟨a, _, rfl⟩ := List.mem_map.1 hx
    obtain ⟨b, _, rfl⟩ := List.mem_map.1 hy
    exact ⟨_, cmpA_item a b⟩
  irr x hx := by
    obtain ⟨a, _, rfl⟩ := List.mem_map.1 hx
    rw [cmpOf_item]
    exact lt_irreflI a
  trans x hx y hy z hz := by
    obtain ⟨a, _, rfl⟩ := List.mem_map.1 hx
    obtain ⟨b, _, rfl⟩ := List.mem_map.1 hy
    obtain ⟨c, _, rfl⟩ := List.mem_map.1 hz
    rw [cmpOf_item, cmpOf_item, cmpOf_item]
    exact lt_transI
  ntrans x hx y hy z hz := by
    obtain ⟨a, _, rfl⟩ := List.mem_map.1 hx
    obtain ⟨b, _, rfl⟩ := List.mem_map.1 hy
    obtain ⟨c, _, rfl⟩ := List.mem_map.1 hz
    rw [cmpOf_item, cmpOf_item, cmpOf_item]
    intro h1 h2 h3
    have a1 := good_cmpI.anti a b
    have a2 := good_cmpI.anti b c
    have a3 := good_cmpI.anti a c
    have a4 := good_cmpI.anti b a
    have a5 := good_cmpI.anti c b
    have := good_cmpI.trans c b a (by omega) (by omega)
    omega
  total x hx y hy := by
    obtain ⟨a, _, rfl⟩ := List.mem_map.1 hx
    obtain ⟨b, _, rfl⟩ := List.mem_map.1 hy
    rw [cmpOf_item, cmpOf_item]
    intro h1 h2
    have a1 := good_cmpI.anti a b
    have a2 := good_cmpI.anti b a
    rw [cmpI_zero a b (by omega)]
theorem sortOf_item (l : List Item) : sortOf A.fn 143 (l.map encI) = (sortI l).map encI := by
  unfold sortOf sortI
  exact (List.map_mergeSort (fun a _ b _ => by rw [cmpOf_item])).symm
theorem sortItem (l : List Item) (hl : l.length < 1000000000) : A.fn 142 [.at (.row pinN 0), .at (.pv (.fn 143 []))] [rI l] = some (.tup [], [some (rI (sortI l))]) := by
  have h := (lib_run hL L142 [.at (.row pinN 0), .at (.pv (.fn 143 []))] [rI l]).trans (sortF_at (P := Tryz.prog) (H := A.fn) (g := 143) (k := 8) (xs := l.map encI) ⟨by kernel_rfl, by simp; omega, fun x hx p hp => by
    obtain ⟨a, _, rfl⟩ := List.mem_map.1 hx
    simp at hp
    rcases hp with rfl | rfl | rfl | rfl | rfl | rfl | rfl | rfl <;> rfl, tells_item l⟩)
  rw [sortOf_item] at h
  exact h
/-! ### What has been seen -/
def dotT (d : Dot) : D3 := (d.f0, d.f1, d.f2)
theorem dotT_inj {a b : Dot} (h : dotT a = dotT b) : a = b := by
  obtain ⟨a0, a1, a2⟩ := a
  obtain ⟨b0, b1, b2⟩ := b
  simp only [dotT, Prod.mk.injEq] at h
  rw [h.1, h.2.1, h.2.2]
/-- Without those that have been seen, dots as keys of a map. -/
def keepA : List D3 → List Item → List Item
  | _, [] => []
  | s, x :: l => if dotT x.f5 ∈ s then keepA (addD s (dotT x.f5)) l else x :: keepA (addD s (dotT x.f5)) l
theorem keepA_keepN : ∀ (l : List Item) (s : List Dot), keepA (s.map dotT) l = keepN s l
  | [], s => rfl
  | x :: l, s => by
    have hm : dotT x.f5 ∈ s.map dotT ↔ x.f5 ∈ s := ⟨fun h => by obtain ⟨d, hd, e⟩ := List.mem_map.1 h; rw [← dotT_inj e]; exact hd, List.mem_map_of_mem⟩
    rw [keepA, keepN]
    by_cases c : x.f5 ∈ s
    · rw [if_pos (hm.2 c), if_pos c, ← keepA_keepN l s]
      unfold addD
      rw [if_pos (hm.2 c)]
    · rw [if_neg (fun h => c (hm.1 h)), if_neg c, ← keepA_keepN l (s ++ [x.f5])]
      unfold addD
      rw [if_neg (fun h => c (hm.1 h)), List.map_append]
      rfl
theorem keepA_len : ∀ (l : List Item) (s : List D3), (keepA s l).length ≤ l.length
  | [], _ => Nat.le_refl _
  | x :: l, s => by
    have := keepA_len l (addD s (dotT x.f5))
    rw [keepA]
    split <;> simp <;> omega
theorem norm1 (x : Item) (ds : List D3) : A.fn 145 [ag (encI x), .at (.ptr (pinN + 1) 0 0)] [.map ds, .blk [.ptr pinN 0 cloN]] = some (.one (bv (decide (dotT x.f5 ∈ ds))), [some (.map (addD ds (dotT x.f5))), some (.blk [.ptr pinN 0 cloN])]) := by
  rw [fn_run hL Tryz.func145 rfl L145 (by rfl) rfl rfl rfl (by decide)]
  simp [Tryz.f145, dotT]
  congr
abbrev clN : V1 := .at (.ptr (pinN + 2) 0 (cloN * (145 + 2)))
abbrev oN (r : AObj) (s : List D3) : List Upd := [(pinN, 0, some r), (pinN + 1, 0, some (.map s)), (pinN + 2, 0, some (.blk [.ptr (pinN + 1) 0 cloN]))]
theorem idxN_loop (l : List Item) (hl : l.length < 1000000000) (n : Nat) : ∀ (i : Nat) (s : List D3), l.length = i + n →
    (∃ s', A.lp 189 0 (hd189_0 [.at (.row pinN 0), clN, iv l.length, iv i] (oN (rI l) s)) = some (.exit 0, ex189_0 [nov] (oN (rI l) s')) ∧ keepA s (l.drop i) = l.drop i) ∨
    ∃ s' k, i ≤ k ∧ k < l.length ∧ A.lp 189 0 (hd189_0 [.at (.row pinN 0), clN, iv l.length, iv i] (oN (rI l) s)) = some (.ret, ex189_0 [iv k] (oN (rI l) s')) ∧ keepA s (l.drop i) = (l.take k).drop i ++ keepA s' (l.drop (k + 1)) := by
  induction n with
  | zero =>
    intro i s hi
    obtain rfl : i = l.length := by omega
    refine .inl ⟨s, ?_, by simp [keepA]⟩
    rw [lp_run hL Tryz.func189 rfl (by rfl) 0 rfl]
    simp
  | succ n ih =>
    intro i s hi
    have h1 : i < l.length := by omega
    have hx := norm1 l[i] s
    have ih := ih (i + 1) (addD s (dotT l[i].f5)) (by omega)
    simp only [ag, encI, List.map_cons, List.map_nil, pinN, cloN, Nat.reduceAdd] at hx
    rw [List.drop_eq_getElem_cons h1, keepA]
    by_cases c : dotT l[i].f5 ∈ s
    · rw [decide_eq_true c] at hx
      refine .inr ⟨addD s (dotT l[i].f5), i, Nat.le_refl _, h1, ?_, ?_⟩
      · rw [lp_run hL Tryz.func189 rfl (by rfl) 0 rfl]
        simp [h1, hx, oN, clN]
      · rw [if_pos c, List.drop_take, Nat.sub_self, List.take_zero, List.nil_append]
    · rw [decide_eq_false c] at hx
      rw [if_neg c]
      rcases ih with ⟨s', q1, q2⟩ | ⟨s', k, q0, q1, q2, q3⟩
      · refine .inl ⟨s', ?_, by rw [q2]⟩
        rw [lp_run hL Tryz.func189 rfl (by rfl) 0 rfl]
        simp [h1, hx, oN, clN] at q1 ⊢
        simp (disch := omega) only [wr]
        exact q1
      · refine .inr ⟨s', k, by omega, q1, ?_, ?_⟩
        · rw [lp_run hL Tryz.func189 rfl (by rfl) 0 rfl]
          simp [h1, hx, oN, clN] at q2 ⊢
          simp (disch := omega) only [wr]
          exact q2
        · rw [q3, ← List.cons_append]
          congr 1
          have e := List.drop_eq_getElem_cons (show i < (l.take k).length by rw [List.length_take]; omega)
          rw [e, List.getElem_take]
theorem idxN (l : List Item) (hl : l.length < 1000000000) (s : List D3) :
    (∃ s', A.fn 189 [.at (.row pinN 0), clN] [rI l, .map s, .blk [.ptr (pinN + 1) 0 cloN]] = some (.one (iv (-1)), [some (rI l), some (.map s'), some (.blk [.ptr (pinN + 1) 0 cloN])]) ∧ keepA s l = l) ∨
    ∃ s' k, k < l.length ∧ A.fn 189 [.at (.row pinN 0), clN] [rI l, .map s, .blk [.ptr (pinN + 1) 0 cloN]] = some (.one (iv (k : Nat)), [some (rI l), some (.map s'), some (.blk [.ptr (pinN + 1) 0 cloN])]) ∧ keepA s l = l.take k ++ keepA s' (l.drop (k + 1)) := by
  rcases idxN_loop l hl l.length 0 s (by omega) with ⟨s', q1, q2⟩ | ⟨s', k, q0, q1, q2, q3⟩
  · refine .inl ⟨s', ?_, q2⟩
    rw [fn_run hL Tryz.func189 rfl L189 (by rfl) rfl rfl rfl (by decide)]
    simp [oN, clN] at q1 ⊢
    simp [Tryz.f189, q1]
  · refine .inr ⟨s', k, q1, ?_, q3⟩
    rw [fn_run hL Tryz.func189 rfl L189 (by rfl) rfl rfl rfl (by decide)]
    simp [oN, clN] at q2 ⊢
    simp [Tryz.f189, q2]
theorem delN_loop (l : List Item) (hl : l.length < 1000000000) (n : Nat) : ∀ (j c : Nat) (ys : List Item) (s : List D3), l.length = j + n → ys.length = l.length → ys.drop j = l.drop j → c ≤ j →
    ∃ (zs : List Item) (s' : List D3), zs.length = l.length ∧ zs.take (c + (keepA s (l.drop j)).length) = ys.take c ++ keepA s (l.drop j) ∧ A.lp 144 0 (hd144_0 [.at (.row pinN 0), clN, iv c, iv j] (oN (rI ys) s)) =
      some (.exit 0, ex144_0 [.at (.row pinN 0), iv (c + (keepA s (l.drop j)).length : Nat)] (oN (rI zs) s')) := by
  induction n with
  | zero =>
    intro j c ys s hj hy hd hc
    obtain rfl : j = l.length := by omega
    refine ⟨ys, s, hy, by simp [keepA], ?_⟩
    rw [lp_run hL Tryz.func144 rfl (by rfl) 0 rfl]
    simp [hy, keepA, oN, clN]
  | succ n ih =>
    intro j c ys s hj hy hd hc
    have h1 : j < l.length := by omega
    have h2 : j < ys.length := by omega
    have h3 : c < ys.length := by omega
    have hx := norm1 ys[j] s
    rw [List.drop_eq_getElem_cons h1, List.drop_eq_getElem_cons h2] at hd
    obtain ⟨e, hd⟩ := List.cons.inj hd
    rw [List.drop_eq_getElem_cons h1, ← e, keepA]
    simp only [ag, encI, List.map_cons, List.map_nil, pinN, cloN, Nat.reduceAdd] at hx
    by_cases q : dotT ys[j].f5 ∈ s
    · rw [decide_eq_true q] at hx
      obtain ⟨zs, s', z1, z2, z3⟩ := ih (j + 1) c ys (addD s (dotT ys[j].f5)) (by omega) hy hd (by omega)
      rw [if_pos q]
      refine ⟨zs, s', z1, z2, ?_⟩
      rw [lp_run hL Tryz.func144 rfl (by rfl) 0 rfl]
      simp [h2, hx, oN, clN] at z3 ⊢
      simp (disch := omega) only [wr]
      exact z3
    · rw [decide_eq_false q] at hx
      obtain ⟨zs, s', z1, z2, z3⟩ := ih (j + 1) (c + 1) (ys.set c ys[j]) (addD s (dotT ys[j].f5)) (by omega) (by simp [hy]) (by rw [List.drop_set_of_lt (by omega)]; exact hd) (by omega)
      rw [if_neg q, List.length_cons, Nat.add_comm _ 1, ← Nat.add_assoc]
      refine ⟨zs, s', z1, ?_, ?_⟩
      · rw [z2, List.take_succ_eq_append_getElem (by simp; omega)]
        rw [List.take_set_of_le (by omega)]
        simp
      rw [lp_run hL Tryz.func144 rfl (by rfl) 0 rfl]
      simp only [rI, List.map_set] at z3
      simp [h2, h3, hx, oN, clN] at z3 ⊢
      simp (disch := omega) only [wr]
      exact z3
def delNR (b : Bool) (r : AObj) (s : List D3) : Res := match b with
  | true => (.one (.at (.row (pinN + 3) 0)), [none, some (.map s), some (.blk [.ptr (pinN + 1) 0 cloN]), some r])
  | false => (.one (.at (.row pinN 0)), [some r, some (.map s), some (.blk [.ptr (pinN + 1) 0 cloN])])
theorem delN (l : List Item) (hl : l.length < 1000000000) (s : List D3) :
    ∃ b s', A.fn 144 [.at (.row pinN 0), clN] [rI l, .map s, .blk [.ptr (pinN + 1) 0 cloN]] = some (delNR b (rI (keepA s l)) s') := by
  rcases idxN l hl s with ⟨s', q1, q2⟩ | ⟨s', k, q0, q1, q2⟩
  · refine ⟨false, s', ?_⟩
    rw [q2]
    rw [fn_run hL Tryz.func144 rfl L144 (by rfl) rfl rfl rfl (by decide)]
    simp only [rI, clN, pinN, cloN, Nat.reduceAdd, Nat.reduceMul] at q1
    simp [Tryz.f144, q1, delNR, clN]
  · obtain ⟨zs, s2, z1, z2, z3⟩ := delN_loop l hl (l.length - (k + 1)) (k + 1) k l s' (by omega) rfl rfl (by omega)
    refine ⟨true, s2, ?_⟩
    rw [q2, ← z2]
    have hm := keepA_len (l.drop (k + 1)) s'
    rw [List.length_drop] at hm
    obtain ⟨m, hm'⟩ : ∃ m, k + (keepA s' (l.drop (k + 1))).length = m := ⟨_, rfl⟩
    rw [hm'] at z3 ⊢
    have hz : m ≤ zs.length := by omega
    have e1 : ¬ (k : Int) = -1 := by omega
    have e2 : ¬ (m : Int) < 0 := by omega
    rw [fn_run hL Tryz.func144 rfl L144 (by rfl) rfl rfl rfl (by decide)]
    simp only [rI, clN, pinN, cloN, Nat.reduceAdd, Nat.reduceMul] at q1
    simp [oN, clN] at z3
    simp [Tryz.f144, q1, clN]
    simp (disch := omega) only [wr]
    simp [z3, e1, e2, hz, delNR]
theorem itemNorm (l : List Item) (hl : l.length < 1000000000) : A.fn 65 [pv (lI l)] [] = some (.one (.at (.row pinN 0)), [some (rI (normL l))]) := by
  have h1 := (lib_run hL L141 [pv (lI l)] []).trans (clone_at A.fn (xs := l.map encI) (by simp [appLim]; omega))
  have h2 := sortItem l hl
  obtain ⟨b, s', h3⟩ := delN (sortI l) (by unfold sortI; simpa using hl) []
  rw [show keepA [] (sortI l) = normL l from keepA_keepN (sortI l) []] at h3
  rw [fn_run hL Tryz.func65 rfl L65 (by rfl) rfl rfl rfl (by decide)]
  simp only [rI, clN, pinN, cloN, Nat.reduceAdd, Nat.reduceMul, lI] at h1 h2 h3
  cases b <;> (simp only [delNR] at h3; simp [Tryz.f65, h1, h2, h3])
end Go.E2.S
/-! What is left of items: without dots, under a zone, of a key: the document's; keys, sizes. -/
namespace Go.E2.S
open Go Go.E2 Go.RowKit Go.Proofs
open Go.E2.Lib (sortB compB)
set_option linter.unusedVariables false
set_option linter.unusedSimpArgs false
set_option maxHeartbeats 1000000
set_option maxRecDepth 10000
theorem dot_ext (a b : Dot) : (decide (a.f0 = b.f0) && (decide (a.f1 = b.f1) && decide (a.f2 = b.f2))) = decide (a = b) := by
  obtain ⟨a0, a1, a2⟩ := a
  obtain ⟨b0, b1, b2⟩ := b
  simp [Bool.decide_and]
abbrev bD (d : Dot) : AObj := .blk [.pv (.int .i64 d.f0), .pv (.int .i64 d.f1), .pv (.int .i64 d.f2)]
def dotIn (ds : List Dot) (d : Dot) : Bool := ds.any fun x => decide (x = d)
theorem is_loop (l : List Dot) (d : Dot) (hl : l.length < 1000000000) (n : Nat) : ∀ i : Nat, l.length = i + n →
    A.lp 257 0 (hd257_0 [pv (lD l), .at (.ptr 2000 0 0), iv i] [(2000, 0, some (bD d))]) = some (if (l.drop i).any (fun x => decide (x = d)) = true then (.ret, ex257_0 [bv true] []) else (.exit 0, ex257_0 [nov] [])) := by
  induction n with
  | zero =>
    intro i hi
    rw [lp_run hL Tryz.func257 rfl (by rfl) 0 rfl]
    obtain rfl : i = l.length := by omega
    simp
  | succ n ih =>
    intro i hi
    have h1 : i < l.length := by omega
    have ih := ih (i + 1) (by omega)
    rw [List.drop_eq_getElem_cons h1, List.any_cons]
    rw [lp_run hL Tryz.func257 rfl (by rfl) 0 rfl]
    by_cases c : l[i] = d
    · simp [h1, c, dot_ext]
    · simp [h1, c, dot_ext, -List.any_eq_true]
      simp (disch := omega) only [wr]
      refine ih.trans ?_
      simp
theorem isDot (l : List Dot) (d : Dot) (hl : l.length < 1000000000) : A.fn 257 [pv (lD l), ag (encD d)] [] = some (.one (bv (dotIn l d)), []) := by
  have h := is_loop l d hl l.length 0 (by omega)
  rw [fn_run hL Tryz.func257 rfl L257 (by rfl) rfl rfl rfl (by decide)]
  unfold dotIn
  cases c : l.any fun x => decide (x = d) with
  | true =>
    simp [Tryz.f257, c, -List.any_eq_true] at h ⊢
    simp [h]
  | false =>
    simp [Tryz.f257, c, -List.any_eq_false] at h ⊢
    simp [h]
theorem rwithout_loop (l : List Item) (ds : List Dot) (hd : ds.length < 1000000000) (hl : l.length < 1000000000) (n : Nat) : ∀ (i : Nat) (out : List Item), l.length = i + n → out.length ≤ i →
    A.lp 248 0 (hd248_0 [pv (lI l), pv (lD ds), .at (.row 2000 0), iv i] [(2000, 0, some (rI out))]) = some (.exit 0, ex248_0 [.at (.row 2000 0)] [(2000, 0, some (rI (out ++ (l.drop i).filter fun x => !dotIn ds x.f5)))]) := by
  induction n with
  | zero =>
    intro i out hi ho
    rw [lp_run hL Tryz.func248 rfl (by rfl) 0 rfl]
    obtain rfl : i = l.length := by omega
    simp
  | succ n ih =>
    intro i out hi ho
    have h1 : i < l.length := by omega
    have hlim : (out.length + 1) * 89 ≤ 70368744177664 := by omega
    have hx := isDot ds l[i].f5 hd
    simp only [ag, encD, List.map_cons, List.map_nil] at hx
    rw [List.drop_eq_getElem_cons h1]
    rw [lp_run hL Tryz.func248 rfl (by rfl) 0 rfl]
    cases c : !dotIn ds l[i].f5 with
    | true =>
      have ih := ih (i + 1) (out ++ [l[i]]) (by omega) (by simp; omega)
      rw [List.filter_cons_of_pos (by simpa using c), List.append_cons]
      try simp at c
      simp [rI, h1, c, hlim, hx] at ih ⊢
      simp (disch := omega) only [wr]
      exact ih
    | false =>
      have ih := ih (i + 1) out (by omega) (by omega)
      rw [List.filter_cons_of_neg (by simp [c])]
      try simp at c
      simp [rI, h1, c, hlim, hx] at ih ⊢
      simp (disch := omega) only [wr]
      exact ih
theorem rwithout (l : List Item) (ds : List Dot) (hd : ds.length < 1000000000) (hl : l.length < 1000000000) : A.fn 248 [pv (lI l), pv (lD ds)] [] = some (.one (.at (.row pinN 0)), [some (rI (l.filter fun x => !dotIn ds x.f5))]) := by
  have h := rwithout_loop l ds hd hl l.length 0 [] (by omega) (by simp)
  rw [fn_run hL Tryz.func248 rfl L248 (by rfl) rfl rfl rfl (by decide)]
  simp [rI] at h ⊢
  simp [Tryz.f248, h]
theorem runder_loop (l : List Item) (z : List ByteArray) (hz : z.length < 1000000000) (hs : ∀ x ∈ z, x.size ≤ 9223372036854775807) (hl : l.length < 1000000000) (n : Nat) : ∀ (i : Nat) (out : List Item), l.length = i + n → out.length ≤ i →
    A.lp 132 0 (hd132_0 [pv (lI l), pv (lS z), .at (.row 2000 0), iv i] [(2000, 0, some (rI out))]) = some (.exit 0, ex132_0 [.at (.row 2000 0)] [(2000, 0, some (rI (out ++ (l.drop i).filter fun x => coversL z x.f0)))]) := by
  induction n with
  | zero =>
    intro i out hi ho
    rw [lp_run hL Tryz.func132 rfl (by rfl) 0 rfl]
    obtain rfl : i = l.length := by omega
    simp
  | succ n ih =>
    intro i out hi ho
    have h1 : i < l.length := by omega
    have hlim : (out.length + 1) * 89 ≤ 70368744177664 := by omega
    have hx := rcovers z l[i].f0 hz hs
    rw [List.drop_eq_getElem_cons h1]
    rw [lp_run hL Tryz.func132 rfl (by rfl) 0 rfl]
    cases c : coversL z l[i].f0 with
    | true =>
      have ih := ih (i + 1) (out ++ [l[i]]) (by omega) (by simp; omega)
      rw [List.filter_cons_of_pos (by simpa using c), List.append_cons]
      try simp at c
      simp [rI, h1, c, hlim, hx] at ih ⊢
      simp (disch := omega) only [wr]
      exact ih
    | false =>
      have ih := ih (i + 1) out (by omega) (by omega)
      rw [List.filter_cons_of_neg (by simp [c])]
      try simp at c
      simp [rI, h1, c, hlim, hx] at ih ⊢
      simp (disch := omega) only [wr]
      exact ih
theorem runder (l : List Item) (z : List ByteArray) (hz : z.length < 1000000000) (hs : ∀ x ∈ z, x.size ≤ 9223372036854775807) (hl : l.length < 1000000000) : A.fn 132 [pv (lI l), pv (lS z)] [] = some (.one (pv (lI (l.filter fun x => coversL z x.f0))), []) := by
  have h := runder_loop l z hz hs hl l.length 0 [] (by omega) (by simp)
  rw [fn_run hL Tryz.func132 rfl L132 (by rfl) rfl rfl rfl (by decide)]
  simp [rI] at h ⊢
  simp [Tryz.f132, h]
def keysL (l : List Item) : List ByteArray := onceL (l.map Item.f0)
/-! ### Sizes -/
def szI : List Item → Nat
  | [] => 0
  | x :: l => (x.f0.size + x.f1.size + x.f3.size + 24) + szI l
def szR : List Item → Nat
  | [] => 0
  | x :: l => (x.f0.size + x.f1.size + x.f3.size) + szR l
theorem szR_eq : ∀ l : List Item, 24 * l.length + szR l = szI l
  | [] => rfl
  | x :: l => by rw [szR, szI, ← szR_eq l, List.length_cons]; omega
theorem shortI_iff {x : Item} : shortI x = true ↔ x.f0.size ≤ 300 ∧ x.f1.size ≤ 300 ∧ x.f3.size ≤ 300 := by simp [shortI, and_assoc]
end Go.E2.S
/-! What is left of items: without dots, under a zone, of a key: the program's. -/
namespace Go.E2.S
open Go Go.E2 Go.RowKit Go.Proofs
set_option linter.unusedVariables false
set_option linter.unusedSimpArgs false
set_option maxHeartbeats 1000000
set_option maxRecDepth 10000
theorem cloneI (l : List Item) (hl : l.length < 1000000000) : A.fn 141 [pv (lI l)] [] = some (.one (.at (.row pinN 0)), [some (rI l)]) :=
  (lib_run hL L141 [pv (lI l)] []).trans (clone_at A.fn (xs := l.map encI) (by simp [appLim]; omega))
theorem under1 (x : Item) (z : List ByteArray) (hz : z.length < 1000000000) : A.fn 222 [ag (encI x), pv (.ref [lS z])] [] = some (.one (bv (!coversL z x.f0)), []) := by
  have h := covers z x.f0 hz
  rw [fn_run hL Tryz.func222 rfl L222 (by rfl) rfl rfl rfl (by decide)]
  simp [Tryz.f222, h]
theorem itemUnder (l : List Item) (z : List ByteArray) (hl : l.length < 1000000000) (hz : z.length < 1000000000) : A.fn 195 [pv (lI l), pv (lS z)] [] = some (.one (.at (.row pinN 0)), [some (rI (l.filter fun x => coversL z x.f0))]) := by
  have h1 := cloneI l hl
  have h2 := delI l 222 [.ref [lS z]] (fun x => !coversL z x.f0) (by simp) hl (fun x _ => under1 x z hz)
  rw [fn_run hL Tryz.func195 rfl L195 (by rfl) rfl rfl rfl (by decide)]
  simp only [Bool.not_not] at h2
  cases c : l.any fun x => !coversL z x.f0 <;> (rw [c] at h2; simp only [delR] at h2; simp [rI] at h1 h2; simp [Tryz.f195, h1, h2])
theorem idxD_loop (l : List Dot) (d : Dot) (hl : l.length < 1000000000) (n : Nat) : ∀ i : Nat, l.length = i + n →
    A.lp 268 0 (hd268_0 [pv (lD l), .at (.ptr 2000 0 0), iv l.length, iv i] [(2000, 0, some (bD d))]) =
      some (if dotIn (l.drop i) d = true then (.ret, ex268_0 [iv (i + (l.drop i).findIdx fun x => decide (x = d) : Nat)] []) else (.exit 0, ex268_0 [nov] [])) := by
  unfold dotIn
  induction n with
  | zero =>
    intro i hi
    rw [lp_run hL Tryz.func268 rfl (by rfl) 0 rfl]
    obtain rfl : i = l.length := by omega
    simp
  | succ n ih =>
    intro i hi
    have h1 : i < l.length := by omega
    have ih := ih (i + 1) (by omega)
    rw [lp_run hL Tryz.func268 rfl (by rfl) 0 rfl]
    rw [List.drop_eq_getElem_cons h1, List.any_cons, findI_cons]
    by_cases c : l[i] = d
    · have c' : d = l[i] := c.symm
      simp [h1, c, dot_ext]
    · have c' : ¬ d = l[i] := fun e => c e.symm
      simp [h1, c, c', dot_ext, -List.any_eq_true]
      simp (disch := omega) only [wr]
      refine ih.trans ?_
      cases (l.drop (i + 1)).any fun x => decide (x = d) <;> simp [Nat.add_assoc, Nat.add_comm 1]
theorem idxD (l : List Dot) (d : Dot) (hl : l.length < 1000000000) : A.fn 268 [pv (lD l), ag (encD d)] [] = some (.one (iv (idxL (fun x => decide (x = d)) l)), []) := by
  have h := idxD_loop l d hl l.length 0 (by omega)
  rw [fn_run hL Tryz.func268 rfl L268 (by rfl) rfl rfl rfl (by decide)]
  unfold idxL
  unfold dotIn at h
  cases c : l.any fun x => decide (x = d) with
  | true =>
    simp [Tryz.f268, c, -List.any_eq_true] at h ⊢
    simp [h]
  | false =>
    simp [Tryz.f268, c, -List.any_eq_false] at h ⊢
    simp [h]
theorem contD (l : List Dot) (d : Dot) (hl : l.length < 1000000000) : A.fn 256 [pv (lD l), ag (encD d)] [] = some (.one (bv (dotIn l d)), []) := by
  have h := idxD l d hl
  rw [fn_run hL Tryz.func256 rfl L256 (by rfl) rfl rfl rfl (by decide)]
  simp only [ag, encD, List.map_cons, List.map_nil] at h
  unfold dotIn
  unfold idxL at h
  cases c : l.any fun x => decide (x = d) with
  | true =>
    simp only [c, if_true] at h
    simp [Tryz.f256, h]
  | false =>
    simp only [c, Bool.false_eq_true, if_false] at h
    simp [Tryz.f256, h]
theorem without1 (x : Item) (ds : List Dot) (hd : ds.length < 1000000000) : A.fn 255 [ag (encI x), pv (.ref [lD ds])] [] = some (.one (bv (dotIn ds x.f5)), []) := by
  have h := contD ds x.f5 hd
  rw [fn_run hL Tryz.func255 rfl L255 (by rfl) rfl rfl rfl (by decide)]
  simp only [ag, encD, List.map_cons, List.map_nil] at h
  simp [Tryz.f255, h]
theorem itemWithout (l : List Item) (ds : List Dot) (hl : l.length < 1000000000) (hd : ds.length < 1000000000) : A.fn 246 [pv (lI l), pv (lD ds)] [] = some (.one (.at (.row pinN 0)), [some (rI (l.filter fun x => !dotIn ds x.f5))]) := by
  have h1 := cloneI l hl
  have h2 := delI l 255 [.ref [lD ds]] (fun x => dotIn ds x.f5) (by simp) hl (fun x _ => without1 x ds hd)
  rw [fn_run hL Tryz.func246 rfl L246 (by rfl) rfl rfl rfl (by decide)]
  cases c : l.any fun x => dotIn ds x.f5 <;> (rw [c] at h2; simp only [delR] at h2; simp [rI] at h1 h2; simp [Tryz.f246, h1, h2])
end Go.E2.S
/-! The document's order of items. -/
namespace Go.E2.S
open Go Go.E2 Go.RowKit Go.Proofs
set_option linter.unusedVariables false
set_option linter.unusedSimpArgs false
set_option maxHeartbeats 2000000
set_option maxRecDepth 10000
def lessP : List (Int × Int) → Option Bool
  | [] => none
  | p :: l => if p.1 = p.2 then lessP l else some (decide (p.1 < p.2))
def pairsI (a b : Item) : List (Int × Int) := [(a.f2, b.f2), (a.f5.f0, b.f5.f0), (a.f5.f1, b.f5.f1), (a.f5.f2, b.f5.f2)]
abbrev bI (x : Item) : AObj := .blk [.pv (.str x.f0), .pv (.str x.f1), .pv (.int .i64 x.f2), .pv (.str x.f3), .pv (.int .i64 x.f4), .pv (.int .i64 x.f5.f0), .pv (.int .i64 x.f5.f1), .pv (.int .i64 x.f5.f2)]
abbrev encP (p : Int × Int) : List PV := [.int .i64 p.1, .int .i64 p.2]
theorem cmpB_self (a : ByteArray) : cmpB a a = 0 := by
  have := good_cmpB.anti a a
  omega
theorem cmpZ_self (a : Int) : cmpZ a a = 0 := by
  have := good_cmpZ.anti a a
  omega
theorem or_B (a b : ByteArray) (l : List Int) : decide (orZ (cmpB a b :: l) < 0) = if a = b then decide (orZ l < 0) else decide (bl a < bl b) := by
  unfold orZ
  by_cases h : a = b
  · subst h
    rw [if_pos (cmpB_self a), if_pos rfl]
    cases l <;> rfl
  · rw [if_neg (fun e => h (cmpB_zero a b e)), if_neg h]
    simp [cmpB_neg]
theorem cmpZ_neg (a b : Int) : cmpZ a b < 0 ↔ a < b := by
  unfold cmpZ
  split
  · simp; omega
  · split <;> simp <;> omega
theorem or_Z (a b : Int) (l : List Int) : decide (orZ (cmpZ a b :: l) < 0) = if a = b then decide (orZ l < 0) else decide (a < b) := by
  unfold orZ
  by_cases h : a = b
  · subst h
    rw [if_pos (cmpZ_self a), if_pos rfl]
    cases l <;> rfl
  · rw [if_neg (fun e => h (cmpZ_zero a b e)), if_neg h]
    simp [cmpZ_neg]
def lessI (a b : Item) : Bool := if a.f0 = b.f0 then (if a.f1 = b.f1 then (match lessP (pairsI a b) with
  | some r => r
  | none => if a.f3 = b.f3 then decide (a.f4 < b.f4) else decide (bl a.f3 < bl b.f3)) else decide (bl a.f1 < bl b.f1)) else decide (bl a.f0 < bl b.f0)
theorem lessI_eq (a b : Item) : lessI a b = decide (cmpI a b < 0) := by
  unfold lessI cmpI pairsI
  rw [or_B, or_B, or_Z, or_Z, or_Z, or_Z, or_B, or_Z]
  have e : decide (orZ [] < 0) = false := by decide
  rw [e]
  simp only [lessP]
  by_cases h0 : a.f0 = b.f0
  · rw [if_pos h0, if_pos h0]
    by_cases h1 : a.f1 = b.f1
    · rw [if_pos h1, if_pos h1]
      by_cases h2 : a.f2 = b.f2
      · rw [if_pos h2, if_pos h2]
        by_cases h3 : a.f5.f0 = b.f5.f0
        · rw [if_pos h3, if_pos h3]
          by_cases h4 : a.f5.f1 = b.f5.f1
          · rw [if_pos h4, if_pos h4]
            by_cases h5 : a.f5.f2 = b.f5.f2
            · rw [if_pos h5, if_pos h5]
              dsimp only
              by_cases h6 : a.f3 = b.f3
              · rw [if_pos h6, if_pos h6]
                by_cases h7 : a.f4 = b.f4
                · rw [if_pos h7, h7]; simp
                · rw [if_neg h7]
              · rw [if_neg h6, if_neg h6]
            · rw [if_neg h5, if_neg h5]
          · rw [if_neg h4, if_neg h4]
        · rw [if_neg h3, if_neg h3]
      · rw [if_neg h2, if_neg h2]
    · rw [if_neg h1, if_neg h1]
  · rw [if_neg h0, if_neg h0]
theorem less_loop (a b : Item) (ps : List (Int × Int)) (hl : ps.length < 1000) (n : Nat) : ∀ i : Nat, ps.length = i + n →
    A.lp 155 0 (hd155_0 [.at (.ptr 2000 0 0), .at (.ptr 2001 0 0), .at (.row 2002 0), iv ps.length, iv i] [(2000, 0, some (bI a)), (2001, 0, some (bI b)), (2002, 0, some (.row true 2 (ps.map encP)))]) =
      some (match lessP (ps.drop i) with
        | none => (.exit 0, ex155_0 [.at (.ptr 2000 0 0), .at (.ptr 2001 0 0), nov] [(2000, 0, some (bI a)), (2001, 0, some (bI b))])
        | some r => (.ret, ex155_0 [.at (.ptr 2000 0 0), .at (.ptr 2001 0 0), bv r] [(2000, 0, some (bI a)), (2001, 0, some (bI b))])) := by
  induction n with
  | zero =>
    intro i hi
    rw [lp_run hL Tryz.func155 rfl (by rfl) 0 rfl]
    obtain rfl : i = ps.length := by omega
    simp [lessP]
  | succ n ih =>
    intro i hi
    have h1 : i < ps.length := by omega
    have ih := ih (i + 1) (by omega)
    rw [List.drop_eq_getElem_cons h1, lessP]
    rw [lp_run hL Tryz.func155 rfl (by rfl) 0 rfl]
    by_cases c : ps[i].1 = ps[i].2
    · rw [if_pos c]
      simp [h1, c]
      simp (disch := omega) only [wr]
      exact ih
    · rw [if_neg c]
      simp [h1, c]
theorem rless (a b : Item) : A.fn 155 [ag (encI a), ag (encI b)] [] = some (.one (bv (decide (cmpI a b < 0))), []) := by
  rw [← lessI_eq]
  have h := less_loop a b (pairsI a b) (by simp [pairsI]) 4 0 (by simp [pairsI])
  unfold lessI
  rw [fn_run hL Tryz.func155 rfl L155 (by rfl) rfl rfl rfl (by decide)]
  by_cases c0 : a.f0 = b.f0
  · rw [if_pos c0]
    by_cases c1 : a.f1 = b.f1
    · rw [if_pos c1]
      cases q : lessP (pairsI a b) with
      | some r =>
        rw [List.drop_zero, q] at h
        simp [pairsI, bI, c0, c1] at h
        simp [Tryz.f155, c0, c1, h]
      | none =>
        rw [List.drop_zero, q] at h
        by_cases c3 : a.f3 = b.f3
        · simp [pairsI, bI, c0, c1, c3] at h
          simp [Tryz.f155, c0, c1, c3, h]
        · simp [pairsI, bI, c0, c1, c3] at h
          simp [Tryz.f155, c0, c1, c3, h]
    · rw [if_neg c1]
      simp [Tryz.f155, c0, c1]
  · rw [if_neg c0]
    simp [Tryz.f155, c0]
end Go.E2.S
/-! The document's one form of items. -/
namespace Go.E2.S
open Go Go.E2 Go.RowKit Go.Proofs
set_option linter.unusedVariables false
set_option linter.unusedSimpArgs false
set_option maxHeartbeats 2000000
set_option maxRecDepth 10000
/-! ### Plain -/
/-- An item laid into its place. -/
def putIt (l : List Item) (x : Item) : List Item := l.takeWhile (fun y => decide (cmpI y x < 0)) ++ x :: l.dropWhile fun y => decide (cmpI y x < 0)
theorem putIt_mem {l : List Item} {x y : Item} : y ∈ putIt l x ↔ y = x ∨ y ∈ l := by
  unfold putIt
  have e := List.takeWhile_append_dropWhile (p := fun y => decide (cmpI y x < 0)) (l := l)
  rw [List.mem_append, List.mem_cons]
  constructor
  · rintro (h | h | h)
    · exact .inr (by rw [← e]; exact List.mem_append_left _ h)
    · exact .inl h
    · exact .inr (by rw [← e]; exact List.mem_append_right _ h)
  · rintro (h | h)
    · exact .inr (.inl h)
    · rw [← e] at h
      rcases List.mem_append.1 h with h | h
      · exact .inl h
      · exact .inr (.inr h)
theorem putIt_up : ∀ {l : List Item} {x : Item}, UpI l → (∀ y ∈ l, y.f5 ≠ x.f5) → UpI (putIt l x)
  | [], x, _, _ => by simp [putIt, UpI]
  | a :: l, x, h, hd => by
    obtain ⟨ha, hl⟩ := List.pairwise_cons.1 h
    by_cases c : cmpI a x < 0
    · have e : putIt (a :: l) x = a :: putIt l x := by unfold putIt; rw [List.takeWhile_cons_of_pos (by simpa using c), List.dropWhile_cons_of_pos (by simpa using c)]; rfl
      rw [e]
      refine List.pairwise_cons.2 ⟨fun y hy => ?_, putIt_up hl fun y hy => hd y (.tail _ hy)⟩
      rcases putIt_mem.1 hy with rfl | hy
      · exact ⟨c, hd a (.head _)⟩
      · exact ha y hy
    · have e : putIt (a :: l) x = x :: a :: l := by unfold putIt; rw [List.takeWhile_cons_of_neg (by simpa using c), List.dropWhile_cons_of_neg (by simpa using c)]; rfl
      rw [e]
      have hxa : cmpI x a < 0 := by
        have h1 := good_cmpI.anti a x
        have h2 := good_cmpI.anti x a
        rcases Int.lt_or_le (cmpI x a) 0 with q | q
        · exact q
        · exact absurd (congrArg Item.f5 (cmpI_zero a x (by omega))) (hd a (.head _))
      refine List.pairwise_cons.2 ⟨fun y hy => ?_, h⟩
      refine ⟨?_, fun e => hd y hy e.symm⟩
      rcases List.mem_cons.1 hy with rfl | hy
      · exact hxa
      · exact lt_transI hxa (ha y hy).1
/-- Is it the first one of its dot? -/
def blocks (l : List Item) (i k : Nat) (y x : Item) : Bool := decide (y.f5 = x.f5) && (decide (cmpI y x < 0) || (decide (y = x) && decide (k < i)))
def firstI (l : List Item) (i : Nat) (x : Item) (n : Nat) : Bool := (List.range n).all fun k => match l[k]? with
  | some y => !blocks l i k y x
  | none => true
theorem firstI_succ (l : List Item) (i : Nat) (x : Item) (n : Nat) (h : n < l.length) : firstI l i x (n + 1) = (firstI l i x n && !blocks l i n l[n] x) := by
  unfold firstI
  rw [List.range_succ, List.all_append]
  simp [h]
theorem firstI_iff (l : List Item) (i : Nat) (x : Item) (n : Nat) : firstI l i x n = true ↔ ∀ k (h : k < l.length), k < n → l[k].f5 = x.f5 → ¬ cmpI l[k] x < 0 ∧ ¬ (l[k] = x ∧ k < i) := by
  unfold firstI
  rw [List.all_eq_true]
  constructor
  · intro h k hk hn e
    have := h k (List.mem_range.2 hn)
    rw [List.getElem?_eq_getElem hk] at this
    simp [blocks, e] at this
    exact ⟨by omega, fun ⟨a, b⟩ => this.2.elim (fun c => c a) (fun c => by omega)⟩
  · intro h k hk
    have hn := List.mem_range.1 hk
    cases q : l[k]? with
    | none => rfl
    | some y =>
      obtain ⟨hk2, rfl⟩ := List.getElem?_eq_some_iff.1 q
      by_cases e : l[k].f5 = x.f5
      · obtain ⟨h1, h2⟩ := h k hk2 hn e
        simp only [blocks, e, decide_true, Bool.true_and, Bool.not_eq_true', Bool.or_eq_false_iff, decide_eq_false_iff_not, Bool.and_eq_false_iff]
        exact ⟨h1, Decidable.or_iff_not_imp_left.2 fun c d => h2 ⟨Decidable.not_not.1 c, d⟩⟩
      · simp [blocks, e]
/-- The one form, item by item. -/
def normR (l : List Item) : Nat → List Item
  | 0 => []
  | i + 1 => match l[i]? with
    | some x => if firstI l i x l.length = true then putIt (normR l i) x else normR l i
    | none => normR l i
theorem normR_spec (l : List Item) : ∀ i, i ≤ l.length → UpI (normR l i) ∧ ∀ x, x ∈ normR l i ↔ ∃ k, k < i ∧ l[k]? = some x ∧ firstI l k x l.length = true
  | 0, _ => ⟨List.Pairwise.nil, fun x => by simp [normR]⟩
  | i + 1, hi => by
    obtain ⟨h1, h2⟩ := normR_spec l i (by omega)
    have hl : i < l.length := by omega
    rw [normR, List.getElem?_eq_getElem hl]
    dsimp only
    by_cases c : firstI l i l[i] l.length = true
    · rw [if_pos c]
      refine ⟨putIt_up h1 fun y hy e => ?_, fun x => ?_⟩
      · obtain ⟨k, hk, hky, hf⟩ := (h2 y).1 hy
        obtain ⟨hk2, rfl⟩ := List.getElem?_eq_some_iff.1 hky
        obtain ⟨a1, a2⟩ := (firstI_iff _ _ _ _).1 c k hk2 hk2 e
        obtain ⟨b1, b2⟩ := (firstI_iff _ _ _ _).1 hf i hl hl e.symm
        refine a2 ⟨?_, hk⟩
        have q1 := good_cmpI.anti l[k] l[i]
        have q2 := good_cmpI.anti l[i] l[k]
        exact cmpI_zero _ _ (by omega)
      · rw [putIt_mem, h2]
        constructor
        · rintro (rfl | ⟨k, hk, h⟩)
          · exact ⟨i, by omega, List.getElem?_eq_getElem hl, c⟩
          · exact ⟨k, by omega, h⟩
        · rintro ⟨k, hk, h3, h4⟩
          by_cases e : k = i
          · subst e
            rw [List.getElem?_eq_getElem hl] at h3
            cases h3
            exact .inl rfl
          · exact .inr ⟨k, by omega, h3, h4⟩
    · rw [if_neg c]
      refine ⟨h1, fun x => ?_⟩
      rw [h2]
      constructor
      · rintro ⟨k, hk, h⟩
        exact ⟨k, by omega, h⟩
      · rintro ⟨k, hk, h3, h4⟩
        by_cases e : k = i
        · subst e
          rw [List.getElem?_eq_getElem hl] at h3
          cases h3
          exact absurd h4 c
        · exact ⟨k, by omega, h3, h4⟩
theorem least_at (l : List Item) (x : Item) (h : x ∈ l) : ∃ k, ∃ hk : k < l.length, l[k] = x ∧ ∀ j (hj : j < l.length), j < k → l[j] ≠ x := by
  refine ⟨l.findIdx fun y => decide (y = x), List.findIdx_lt_length.2 ⟨x, h, by simp⟩, ?_, fun j hj hlt => ?_⟩
  · have := List.findIdx_getElem (p := fun y => decide (y = x)) (xs := l) (w := List.findIdx_lt_length.2 ⟨x, h, by simp⟩)
    simpa using this
  · have := List.not_of_lt_findIdx (p := fun y => decide (y = x)) (xs := l) hlt
    simpa using this
theorem normR_eq (l : List Item) : normR l l.length = normL l := by
  obtain ⟨h1, h2⟩ := normR_spec l l.length (Nat.le_refl _)
  refine (normL_eq h1 fun x => ?_).symm
  rw [h2]
  constructor
  · rintro ⟨k, hk, hx, hf⟩
    obtain ⟨hk2, rfl⟩ := List.getElem?_eq_some_iff.1 hx
    refine ⟨List.getElem_mem _, fun y hy e => ?_⟩
    obtain ⟨j, hj, rfl⟩ := List.getElem_of_mem hy
    obtain ⟨a1, _⟩ := (firstI_iff _ _ _ _).1 hf j hj hj e
    have := good_cmpI.anti l[k] l[j]
    have := good_cmpI.anti l[j] l[k]
    omega
  · rintro ⟨hx, hm⟩
    obtain ⟨k, hk, e, hl⟩ := least_at l x hx
    refine ⟨k, hk, by rw [List.getElem?_eq_getElem hk, e], (firstI_iff _ _ _ _).2 fun j hj _ hd => ⟨fun h => ?_, fun ⟨h, hlt⟩ => hl j hj hlt h⟩⟩
    have h1 := hm l[j] (List.getElem_mem hj) hd
    have := good_cmpI.anti l[j] x
    omega
theorem putIt_len (l : List Item) (x : Item) : (putIt l x).length = l.length + 1 := by
  unfold putIt
  have e := congrArg List.length (List.takeWhile_append_dropWhile (p := fun y => decide (cmpI y x < 0)) (l := l))
  rw [List.length_append] at e
  rw [List.length_append, List.length_cons]
  omega
theorem normR_len (l : List Item) : ∀ i, (normR l i).length ≤ i
  | 0 => Nat.le_refl _
  | i + 1 => by
    have := normR_len l i
    rw [normR]
    split
    · split
      · rw [putIt_len]; omega
      · omega
    · omega
/-! ### Walks -/
theorem put_loop (l : List Item) (x : Item) (hl : l.length < 1000000000) (n : Nat) : ∀ i : Nat, l.length = i + n →
    A.lp 156 0 (hd156_0 [pv (lI l), .at (.ptr 2000 0 0), iv i] [(2000, 0, some (bI x))]) = some (.exit 0, ex156_0 [pv (lI l), .at (.ptr 2000 0 0), iv (i + ((l.drop i).takeWhile fun y => decide (cmpI y x < 0)).length : Nat)] [(2000, 0, some (bI x))]) := by
  induction n with
  | zero =>
    intro i hi
    rw [lp_run hL Tryz.func156 rfl (by rfl) 0 rfl]
    obtain rfl : i = l.length := by omega
    simp
    rw [if_pos (by kernel_rfl)]
    simp
  | succ n ih =>
    intro i hi
    have h1 : i < l.length := by omega
    have ih := ih (i + 1) (by omega)
    have hx := rless l[i] x
    simp only [ag, encI, List.map_cons, List.map_nil] at hx
    rw [List.drop_eq_getElem_cons h1]
    rw [lp_run hL Tryz.func156 rfl (by rfl) 0 rfl]
    by_cases c : cmpI l[i] x < 0
    · rw [decide_eq_true c] at hx
      rw [List.takeWhile_cons_of_pos (by simpa using c), List.length_cons, Nat.add_comm _ 1, ← Nat.add_assoc]
      simp [h1, hx]
      rw [if_pos (by kernel_rfl)]
      simp [h1, hx]
      simp (disch := omega) only [wr]
      exact ih
    · rw [decide_eq_false c] at hx
      rw [List.takeWhile_cons_of_neg (by simpa using c)]
      simp [h1, hx]
      rw [if_pos (by kernel_rfl)]
      simp [h1, hx]
theorem rput (l : List Item) (x : Item) (hl : l.length < 1000000000) : A.fn 156 [pv (lI l), ag (encI x)] [] = some (.one (pv (lI (putIt l x))), []) := by
  have h := put_loop l x hl l.length 0 (by omega)
  rw [List.drop_zero, Nat.zero_add] at h
  unfold putIt
  have e := List.takeWhile_append_dropWhile (p := fun y => decide (cmpI y x < 0)) (l := l)
  generalize l.takeWhile (fun y => decide (cmpI y x < 0)) = t at h e ⊢
  generalize l.dropWhile (fun y => decide (cmpI y x < 0)) = d at e ⊢
  subst e
  rw [List.length_append] at hl
  have l1 : t.length * 89 ≤ 70368744177664 := by omega
  have l2 : (t.length + 1) * 89 ≤ 70368744177664 := by omega
  have l3 : (t.length + 1 + d.length) * 89 ≤ 70368744177664 := by omega
  have e0 : ¬ (t.length : Int) < 0 := by omega
  have e1 : (t.length : Int) ≤ (t.length : Int) + d.length := by omega
  rw [fn_run hL Tryz.func156 rfl L156 (by rfl) rfl rfl rfl (by decide)]
  simp at h
  simp [Tryz.f156, h, l1, l2, l3, e0, e1]
  rw [if_pos (by kernel_rfl)]
  simp [l1, l2, l3, e0, e1]
  rw [List.take_of_length_le (by simp)]
theorem item_eqd (a b : Item) : (decide (a.f0 = b.f0) && (decide (a.f1 = b.f1) && (decide (a.f2 = b.f2) && (decide (a.f3 = b.f3) && (decide (a.f4 = b.f4) && (decide (a.f5.f0 = b.f5.f0) && (decide (a.f5.f1 = b.f5.f1) && decide (a.f5.f2 = b.f5.f2)))))))) = decide (a = b) := by
  simp only [← item_ext, Bool.decide_and]
theorem item_eq5 (a b : Item) (h : a.f5 = b.f5) : (decide (a.f0 = b.f0) && (decide (a.f1 = b.f1) && (decide (a.f2 = b.f2) && (decide (a.f3 = b.f3) && decide (a.f4 = b.f4))))) = decide (a = b) := by
  rw [← item_eqd, h]
  simp
/-- What has been laid so far: nothing yet, or a list. -/
def soFar (b : Bool) (out : List Item) : V1 := match b with
  | true => pv (lI out)
  | false => .at .nil
theorem rnorm_l2 (l : List Item) (hl : l.length < 1000000000) (i : Nat) (hi : i < l.length) (b : Bool) (out : List Item) (n : Nat) : ∀ k : Nat, l.length = k + n →
    A.lp 76 2 (hd76_2 [pv (lI l), soFar b out, iv i, bv (firstI l i l[i] k), iv k] []) = some (.exit 2, ex76_2 [pv (lI l), soFar b out, iv i, bv (firstI l i l[i] l.length)] []) := by
  induction n with
  | zero =>
    intro k hk
    rw [lp_run hL Tryz.func76 rfl (by rfl) 2 rfl]
    obtain rfl : k = l.length := by omega
    cases b <;> simp [soFar]
  | succ n ih =>
    intro k hk
    have h1 : k < l.length := by omega
    have ih := ih (k + 1) (by omega)
    rw [firstI_succ l i l[i] k h1, blocks] at ih
    have hx := rless l[k] l[i]
    simp only [ag, encI, List.map_cons, List.map_nil] at hx
    rw [lp_run hL Tryz.func76 rfl (by rfl) 2 rfl]
    by_cases e : l[k].f5 = l[i].f5
    · have e' := eq_true e
      have e5 := item_eq5 l[k] l[i] e
      by_cases c : cmpI l[k] l[i] < 0
      · rw [decide_eq_true c] at hx
        simp only [decide_eq_true e, decide_eq_true c, Bool.true_or, Bool.and_true, Bool.not_true, Bool.and_false] at ih
        cases b
        · simp [soFar] at ih ⊢
          simp [h1, hi, hx, e', dot_ext]
          rw [if_pos ?q]
          case q => kernel_rfl
          simp [h1, hi, hx, e', dot_ext]
          simp (disch := omega) only [wr]
          exact ih
        · simp [soFar] at ih ⊢
          simp [h1, hi, hx, e', dot_ext]
          rw [if_pos ?q]
          case q => kernel_rfl
          simp [h1, hi, hx, e', dot_ext]
          simp (disch := omega) only [wr]
          exact ih
      · rw [decide_eq_false c] at hx
        by_cases d : l[k] = l[i]
        · have d' := eq_true d
          by_cases f : k < i
          · simp only [decide_eq_true e, decide_eq_false c, decide_eq_true d, decide_eq_true f, Bool.false_or, Bool.and_true, Bool.not_true, Bool.and_false] at ih
            cases b
            · simp [soFar] at ih ⊢
              simp [h1, hi, hx, e', d', f, dot_ext, e5]
              rw [if_pos ?q]
              case q => kernel_rfl
              simp [h1, hi, hx, e', d', f, dot_ext, e5]
              simp (disch := omega) only [wr]
              exact ih
            · simp [soFar] at ih ⊢
              simp [h1, hi, hx, e', d', f, dot_ext, e5]
              rw [if_pos ?q]
              case q => kernel_rfl
              simp [h1, hi, hx, e', d', f, dot_ext, e5]
              simp (disch := omega) only [wr]
              exact ih
          · simp only [decide_eq_true e, decide_eq_false c, decide_eq_true d, decide_eq_false f, Bool.false_or, Bool.and_true, Bool.not_false, Bool.and_false] at ih
            cases b
            · simp [soFar] at ih ⊢
              simp [h1, hi, hx, e', d', f, dot_ext, e5]
              rw [if_pos ?q]
              case q => kernel_rfl
              simp [h1, hi, hx, e', d', f, dot_ext, e5, -Nat.not_lt]
              simp (disch := omega) only [wr]
              exact ih
            · simp [soFar] at ih ⊢
              simp [h1, hi, hx, e', d', f, dot_ext, e5]
              rw [if_pos ?q]
              case q => kernel_rfl
              simp [h1, hi, hx, e', d', f, dot_ext, e5, -Nat.not_lt]
              simp (disch := omega) only [wr]
              exact ih
        · have d' := eq_false d
          simp only [decide_eq_true e, decide_eq_false c, decide_eq_false d, Bool.false_or, Bool.false_and, Bool.and_true, Bool.not_false, Bool.and_false] at ih
          cases b
          · simp [soFar] at ih ⊢
            simp [h1, hi, hx, e', d', dot_ext, e5]
            rw [if_pos ?q]
            case q => kernel_rfl
            simp [h1, hi, hx, e', d', dot_ext, e5]
            simp (disch := omega) only [wr]
            exact ih
          · simp [soFar] at ih ⊢
            simp [h1, hi, hx, e', d', dot_ext, e5]
            rw [if_pos ?q]
            case q => kernel_rfl
            simp [h1, hi, hx, e', d', dot_ext, e5]
            simp (disch := omega) only [wr]
            exact ih
    · have e' := eq_false e
      simp only [decide_eq_false e, Bool.false_and, Bool.not_false, Bool.and_true] at ih
      cases b
      · simp [soFar] at ih ⊢
        simp [h1, hi, hx, e', dot_ext]
        rw [if_pos ?q]
        case q => kernel_rfl
        simp [h1, hi, hx, e', dot_ext]
        simp (disch := omega) only [wr]
        exact ih
      · simp [soFar] at ih ⊢
        simp [h1, hi, hx, e', dot_ext]
        rw [if_pos ?q]
        case q => kernel_rfl
        simp [h1, hi, hx, e', dot_ext]
        simp (disch := omega) only [wr]
        exact ih
theorem rnorm_l0 (l : List Item) (hl : l.length < 1000000000) (n : Nat) : ∀ (i : Nat) (b : Bool), l.length = i + n → (b = false → normR l i = []) →
    ∃ b', A.lp 76 0 (hd76_0 [pv (lI l), soFar b (normR l i), iv i] []) = some (.exit 0, ex76_0 [soFar b' (normR l l.length)] []) ∧ (b' = false → normR l l.length = []) := by
  induction n with
  | zero =>
    intro i b hi hb
    obtain rfl : i = l.length := by omega
    refine ⟨b, ?_, hb⟩
    rw [lp_run hL Tryz.func76 rfl (by rfl) 0 rfl]
    cases b <;> simp [soFar]
  | succ n ih =>
    intro i b hi hb
    have h1 : i < l.length := by omega
    have h2 := rnorm_l2 l hl i h1 b (normR l i) l.length 0 (by omega)
    rw [show firstI l i l[i] 0 = true from rfl] at h2
    have e : normR l (i + 1) = if firstI l i l[i] l.length = true then putIt (normR l i) l[i] else normR l i := by
      rw [normR, List.getElem?_eq_getElem h1]
    have h3 := rput (normR l i) l[i] (by have := normR_len l i; omega)
    by_cases c : firstI l i l[i] l.length = true
    · rw [if_pos c] at e
      obtain ⟨b', q1, q2⟩ := ih (i + 1) true (by omega) (by simp)
      refine ⟨b', ?_, q2⟩
      rw [e] at q1
      rw [c] at h2
      simp only [ag, encI, List.map_cons, List.map_nil] at h3
      rw [lp_run hL Tryz.func76 rfl (by rfl) 0 rfl]
      cases b
      · rw [hb rfl] at h2 h3 q1 ⊢
        simp only [lI, List.map_nil] at h3
        simp [soFar] at h2 q1 ⊢
        simp [h1, h2, h3]
        simp (disch := omega) only [wr]
        exact q1
      · simp [soFar] at h2 h3 q1 ⊢
        simp [h1, h2, h3]
        simp (disch := omega) only [wr]
        exact q1
    · rw [if_neg c] at e
      rw [Bool.not_eq_true] at c
      obtain ⟨b', q1, q2⟩ := ih (i + 1) b (by omega) (by rw [e]; exact hb)
      refine ⟨b', ?_, q2⟩
      rw [e] at q1
      rw [c] at h2
      rw [lp_run hL Tryz.func76 rfl (by rfl) 0 rfl]
      cases b
      · simp [soFar] at h2 q1 ⊢
        simp [h1, h2]
        simp (disch := omega) only [wr]
        exact q1
      · simp [soFar] at h2 q1 ⊢
        simp [h1, h2]
        simp (disch := omega) only [wr]
        exact q1
theorem rnorm (l : List Item) (hl : l.length < 1000000000) : A.fn 76 [pv (lI l)] [] = some (.one (pv (lI (normL l))), []) := by
  obtain ⟨b', h1, h2⟩ := rnorm_l0 l hl l.length 0 false (by omega) (fun _ => rfl)
  rw [normR_eq] at h1 h2
  rw [fn_run hL Tryz.func76 rfl L76 (by rfl) rfl rfl rfl (by decide)]
  cases b'
  · rw [h2 rfl] at h1 ⊢
    simp [soFar, normR] at h1
    simp [Tryz.f76, h1]
  · simp [soFar, normR] at h1
    simp [Tryz.f76, h1]
end Go.E2.S
