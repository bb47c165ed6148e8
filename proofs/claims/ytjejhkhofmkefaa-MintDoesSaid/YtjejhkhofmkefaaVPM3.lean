/- Plain law: requests, one behind the other (MintRight, MintDoes). No program in sight. -/
import Derived.Test.YtjejhkhofmkefaaVLw1
namespace Go.E2.S
open Go Go.E2 Go.RowKit Go.Proofs
set_option linter.unusedVariables false
set_option linter.unusedSimpArgs false
/-- The items behind a request. -/
def nextI (node seq : Int) (i : Nat) (l : List Item) (q : Req) : List Item := if (oneE node seq i l q).2.1 = true then stepE node seq l (oneE node seq i l q).1 else l
def okE (node seq : Int) : Nat → List Item → List Req → Prop
  | _, _, [] => True
  | i, l, q :: qs => (oneE node seq i l q).2.2 = 0 ∧ okE node seq (i + 1) (nextI node seq i l q) qs
def finI (node seq : Int) : Nat → List Item → List Req → List Item
  | _, l, [] => l
  | i, l, q :: qs => finI node seq (i + 1) (nextI node seq i l q) qs
def runE (node seq : Int) : Nat → List Item → List Req → List Eff
  | _, _, [] => []
  | i, l, q :: qs => if (oneE node seq i l q).2.1 = true then (oneE node seq i l q).1 :: runE node seq (i + 1) (nextI node seq i l q) qs else runE node seq (i + 1) (nextI node seq i l q) qs
theorem makeG_ok (node seq : Int) : ∀ (qs : List Req) (i : Nat) (l : List Item) (out : List Eff), (makeG node seq i l out qs).2 = 0 → okE node seq i l qs ∧ (makeG node seq i l out qs).1 = out ++ runE node seq i l qs
  | [], i, l, out, h => by simp [makeG, okE, runE]
  | q :: qs, i, l, out, h => by
    rw [makeG] at h ⊢
    by_cases c : (oneE node seq i l q).2.2 = 0
    · rw [if_pos c] at h ⊢
      by_cases d : (oneE node seq i l q).2.1 = true
      · rw [if_pos d] at h ⊢
        have e : doE node seq l [(oneE node seq i l q).1] = nextI node seq i l q := by unfold nextI; rw [if_pos d]; rfl
        rw [e] at h ⊢
        obtain ⟨h1, h2⟩ := makeG_ok node seq qs _ _ _ h
        refine ⟨⟨c, h1⟩, ?_⟩
        rw [h2, runE, if_pos d, List.append_assoc]
        rfl
      · rw [if_neg d] at h ⊢
        have e : l = nextI node seq i l q := by unfold nextI; rw [if_neg d]
        have h' := h
        rw [e] at h'
        obtain ⟨h1, h2⟩ := makeG_ok node seq qs _ _ _ h'
        refine ⟨⟨c, h1⟩, ?_⟩
        rw [runE, if_neg d, ← h2, ← e]
    · rw [if_neg c] at h
      exact absurd h c
theorem doE_run (node seq : Int) : ∀ (qs : List Req) (i : Nat) (l : List Item), doE node seq l (runE node seq i l qs) = finI node seq i l qs
  | [], i, l => rfl
  | q :: qs, i, l => by
    rw [runE, finI, ← doE_run node seq qs]
    by_cases d : (oneE node seq i l q).2.1 = true
    · rw [if_pos d]
      unfold doE
      rw [List.foldl_cons]
      congr 1
      unfold nextI
      rw [if_pos d]
    · rw [if_neg d]
      have e : nextI node seq i l q = l := by unfold nextI; rw [if_neg d]
      rw [e]
theorem run_len (node seq : Int) : ∀ (qs : List Req) (i : Nat) (l : List Item), (runE node seq i l qs).length ≤ qs.length
  | [], i, l => Nat.le_refl _
  | q :: qs, i, l => by
    have := run_len node seq qs (i + 1) (nextI node seq i l q)
    rw [runE]
    split <;> simp <;> omega
/-! ### One request -/
theorem next_mem {node seq : Int} {i : Nat} {l : List Item} {q : Req} (hg : Good node seq i l) (h : (oneE node seq i l q).2.2 = 0) (x : Item) :
    x ∈ nextI node seq i l q ↔ x ∈ keepQ q node l ∨ ((oneE node seq i l q).1.f3 ≠ 0 ∧ x = madeE node seq (oneE node seq i l q).1) := by
  obtain ⟨a0, a6, _, _, _, p1, p3, p4, p5⟩ := oneE_ok h
  unfold nextI
  by_cases d : (oneE node seq i l q).2.1 = true
  · rw [if_pos d]
    exact step_mem hg a0 a6 x
  · rw [if_neg d]
    have n1 : q.f0 ≠ 1 := fun e => d (p1 e).1
    have n3 : q.f0 ≠ 3 := fun e => d (p3 e).1
    have n4 : q.f0 ≠ 4 := fun e => d (p4 e).1
    obtain ⟨b1, b2, _⟩ := p5 n1 n3 n4
    rw [b1] at d
    have hd : dropsL q node l = [] := List.eq_nil_of_length_eq_zero (by simpa using d)
    rw [b2]
    simp only [ne_eq, not_true_eq_false, false_and, or_false]
    rw [keepQ_mem]
    constructor
    · intro hx
      refine ⟨hx, ?_⟩
      cases c : takes q node x
      · rfl
      · have := (dropsL_mem q node l x.f5).2 ⟨x, hx, c, rfl⟩
        rw [hd] at this
        cases this
    · exact fun h => h.1
theorem next_good {node seq : Int} {i : Nat} {l : List Item} {q : Req} (hg : Good node seq i l) (h : (oneE node seq i l q).2.2 = 0) : Good node seq (i + 1) (nextI node seq i l q) := by
  obtain ⟨a0, a6, _⟩ := oneE_ok h
  unfold nextI
  split
  · exact step_good hg a0 a6
  · exact hg.mono (by omega)
structure Rng (node seq : Int) : Prop where
  n0 : 0 ≤ node
  n1 : node < 8
  s0 : 1 ≤ seq
  s1 : seq ≤ 1073741824
theorem made_formed {node seq : Int} {i : Nat} {l : List Item} {q : Req} (hr : Rng node seq) (hi : i < 8) (h : (oneE node seq i l q).2.2 = 0) (hq : formedQ q = true) (h3 : (oneE node seq i l q).1.f3 ≠ 0) : formedI (madeE node seq (oneE node seq i l q).1) = true := by
  obtain ⟨a0, a6, _, a1, a2, p1, p3, p4, p5⟩ := oneE_ok h
  obtain ⟨r1, r2, r3, r4⟩ := hr
  have hq2 := hq
  unfold formedQ at hq2
  simp only [Bool.and_eq_true, decide_eq_true_eq] at hq2
  obtain ⟨⟨⟨k1, k2⟩, k3⟩, k4⟩ := hq2
  unfold formedI kindB rngB madeE
  simp only [a0, a1, a2, Bool.and_eq_true, Bool.or_eq_true, decide_eq_true_eq]
  have base : (0 ≤ node ∧ node ≤ 7) ∧ (1 ≤ seq ∧ seq ≤ 1073741824) ∧ (0 : Int) ≤ (i : Int) ∧ (i : Int) ≤ 7 := by omega
  by_cases c1 : q.f0 = 1
  · obtain ⟨_, b3, b4, b5⟩ := p1 c1
    rw [b3, b4, b5]
    exact ⟨k1, k2, k3, .inl ⟨.inl rfl, rfl⟩, base⟩
  · by_cases c3 : q.f0 = 3
    · obtain ⟨_, b3, b4, b5⟩ := p3 c3
      rw [b3, b4, b5]
      exact ⟨k1, k2, k3, .inl ⟨.inr rfl, rfl⟩, base⟩
    · by_cases c4 : q.f0 = 4
      · obtain ⟨_, _, b⟩ := p4 c4
        have z : q.f3.size = 0 := by simpa [c1, c3, c4] using k4
        rw [b]
        exact ⟨k1, k2, k3, .inr ⟨rfl, z⟩, base⟩
      · exact absurd (p5 c1 c3 c4).2.1 h3
theorem next_formed {node seq : Int} {i : Nat} {l : List Item} {q : Req} (hr : Rng node seq) (hi : i < 8) (hg : Good node seq i l) (hf : ∀ x ∈ l, formedI x = true) (h : (oneE node seq i l q).2.2 = 0) (hq : formedQ q = true) : ∀ x ∈ nextI node seq i l q, formedI x = true := fun x hx => by
  rcases (next_mem hg h x).1 hx with hx | ⟨h3, rfl⟩
  · exact hf x (keepQ_mem.1 hx).1
  · exact made_formed hr hi h hq h3
theorem okDot_of {x : Item} (h : formedI x = true) : okDot x.f5 = true := by
  unfold formedI at h
  simp only [Bool.and_eq_true] at h
  unfold okDot
  simp only [Bool.and_eq_true]
  exact h.2.2.2.2
theorem eff_formed {node seq : Int} {i : Nat} {l : List Item} {q : Req} (hr : Rng node seq) (hi : i < 8) (hf : ∀ x ∈ l, formedI x = true) (h : (oneE node seq i l q).2.2 = 0) (hq : formedQ q = true) (hd : (oneE node seq i l q).2.1 = true) : formedE node seq (oneE node seq i l q).1 = true := by
  have hm := made_formed hr hi h hq
  obtain ⟨a0, a6, a64, a1, a2, p1, p3, p4, p5⟩ := oneE_ok h
  unfold formedE
  simp only [Bool.and_eq_true, decide_eq_true_eq]
  refine ⟨by rw [a6]; exact a64, ?_, ?_⟩
  · rw [allN_iff]
    intro j _ hj
    rw [Nat.zero_add] at hj
    unfold upD
    rw [dAt_eq _ _ hj]
    have hu := dropsL_up q node l
    rw [← a6] at hu
    simp only [Bool.and_eq_true, Bool.or_eq_true, decide_eq_true_eq]
    refine ⟨?_, ?_⟩
    · have hsub : ∀ d ∈ (oneE node seq i l q).1.f6, d ∈ dropsL q node l := by rw [a6]; exact fun _ h => h
      have hmem := hsub _ (List.getElem_mem hj)
      obtain ⟨x, hx, _, e⟩ := (dropsL_mem q node l _).1 hmem
      rw [← e]
      exact okDot_of (hf x hx)
    · by_cases j0 : j = 0
      · exact .inl j0
      · right
        rw [dAt_eq _ _ (show j - 1 < _ by omega)]
        exact List.pairwise_iff_getElem.1 hu _ _ _ _ (by omega)
  · by_cases c : (oneE node seq i l q).1.f3 = 0
    · rw [if_pos c]
      have n1 : q.f0 ≠ 1 := fun e => by rw [(p1 e).2.1] at c; omega
      have n3 : q.f0 ≠ 3 := fun e => by rw [(p3 e).2.1] at c; omega
      have n4 : q.f0 ≠ 4 := fun e => by rw [(p4 e).2.2] at c; simp [incE] at c
      obtain ⟨b1, b3, b4, b5⟩ := p5 n1 n3 n4
      rw [b1] at hd
      obtain ⟨r1, r2, r3, r4⟩ := hr
      unfold formedQ at hq
      simp only [Bool.and_eq_true, decide_eq_true_eq] at hq
      obtain ⟨⟨⟨k1, k2⟩, k3⟩, k4⟩ := hq
      simp only [Bool.and_eq_true, decide_eq_true_eq]
      refine ⟨?_, by rw [b4]; rfl, by rw [a6]; simpa using hd⟩
      unfold formedI kindB rngB
      simp only [a0, a1, a2, b4, b5, Bool.and_eq_true, Bool.or_eq_true, decide_eq_true_eq]
      refine ⟨k1, k2, by decide, ?_, by omega⟩
      simp
    · rw [if_neg c]
      exact hm c
theorem eff_own {node seq : Int} {i : Nat} {l : List Item} {q : Req} (hg : Good node seq i l) (h : (oneE node seq i l q).2.2 = 0) : (oneE node seq i l q).1.f6.any (ownD node seq (oneE node seq i l q).1) = false := by
  obtain ⟨a0, a6, _⟩ := oneE_ok h
  rw [List.any_eq_false]
  intro d hd hc
  rw [a6] at hd
  obtain ⟨x, hx, _, rfl⟩ := (dropsL_mem q node l d).1 hd
  unfold ownD at hc
  simp only [Bool.and_eq_true, decide_eq_true_eq] at hc
  exact hg.fresh x hx ⟨hc.1, .inr ⟨hc.2.1, by rw [← a0]; exact hc.2.2⟩⟩
/-! ### All requests -/
theorem run_right {node seq : Int} (hr : Rng node seq) : ∀ (qs : List Req) (i : Nat) (l : List Item), Good node seq i l → (∀ x ∈ l, formedI x = true) → (∀ q ∈ qs, formedQ q = true) → i + qs.length ≤ 8 → okE node seq i l qs →
    (Good node seq (i + qs.length) (finI node seq i l qs) ∧ ∀ x ∈ finI node seq i l qs, formedI x = true) ∧ (runE node seq i l qs).Pairwise (fun a b => a.f0 < b.f0) ∧ ∀ e ∈ runE node seq i l qs, (i : Int) ≤ e.f0 ∧ formedE node seq e = true ∧ e.f6.any (ownD node seq e) = false
  | [], i, l, hg, hf, hq, hi, ok => ⟨⟨hg, hf⟩, List.Pairwise.nil, fun e he => by cases he⟩
  | q :: qs, i, l, hg, hf, hq, hi, ok => by
    obtain ⟨h, ok⟩ := ok
    rw [List.length_cons] at hi
    have hq1 := hq q (.head _)
    obtain ⟨b1, b2, b3⟩ := run_right hr qs (i + 1) (nextI node seq i l q) (next_good hg h) (next_formed hr (by omega) hg hf h hq1) (fun q hq' => hq q (.tail _ hq')) (by omega) ok
    have e1 : i + (q :: qs).length = i + 1 + qs.length := by rw [List.length_cons]; omega
    refine ⟨by rw [e1]; exact b1, ?_⟩
    rw [runE]
    by_cases d : (oneE node seq i l q).2.1 = true
    · rw [if_pos d]
      have a0 := (oneE_ok h).1
      refine ⟨List.pairwise_cons.2 ⟨fun e he => ?_, b2⟩, fun e he => ?_⟩
      · have := (b3 e he).1
        omega
      · rcases List.mem_cons.1 he with rfl | he
        · exact ⟨by omega, eff_formed hr (by omega) hf h hq1 d, eff_own hg h⟩
        · exact ⟨by have := (b3 e he).1; omega, (b3 e he).2⟩
    · rw [if_neg d]
      exact ⟨b2, fun e he => ⟨by have := (b3 e he).1; omega, (b3 e he).2⟩⟩
theorem rightE_of {node seq : Int} {es : List Eff} (h : es.Pairwise fun a b => a.f0 < b.f0) (h2 : ∀ e ∈ es, formedE node seq e = true ∧ e.f6.any (ownD node seq e) = false) : rightE node seq es = true := by
  unfold rightE
  rw [allN_iff]
  intro j _ hj
  rw [Nat.zero_add] at hj
  unfold rightN
  rw [eAt_eq _ _ hj]
  obtain ⟨q1, q2⟩ := h2 _ (List.getElem_mem hj)
  rw [q1, q2]
  simp only [Bool.true_and, Bool.not_false, Bool.and_true, Bool.or_eq_true, decide_eq_true_eq]
  by_cases j0 : j = 0
  · exact .inl j0
  · right
    rw [eAt_eq _ _ (show j - 1 < _ by omega)]
    exact List.pairwise_iff_getElem.1 h _ _ _ _ (by omega)
/-! ### Fields -/
theorem field_congr {l m : List Item} {key fld : ByteArray} (h : l.filter (inField key fld) = m.filter (inField key fld)) : fieldV l key fld = fieldV m key fld := by
  have e : ∀ {α : Type} (k : Int) (g : Item → α) (l : List Item), pick (sel key fld k) g l = pick (fun x => decide (x.f2 = k)) g (l.filter (inField key fld)) := fun k g l => by
    unfold pick sel
    rw [List.filter_filter]
    congr 1
    refine List.filter_congr fun x _ => ?_
    exact Bool.and_comm _ _
  unfold fieldV
  simp only [e]
  rw [h]
theorem takes_in {q : Req} {node : Int} {x : Item} (h : takes q node x = true) : inField q.f1 q.f2 x = true := by
  unfold takes at h
  simp only [Bool.and_eq_true] at h
  exact h.1
theorem next_other {node seq : Int} {i : Nat} {l : List Item} {q : Req} {key fld : ByteArray} (hg : Good node seq i l) (h : (oneE node seq i l q).2.2 = 0) (hne : ¬ (q.f1 = key ∧ q.f2 = fld)) : (nextI node seq i l q).filter (inField key fld) = l.filter (inField key fld) := by
  obtain ⟨_, _, _, a1, a2, _⟩ := oneE_ok h
  refine upI_ext ((next_good hg h).up.filter _) (hg.up.filter _) fun x => ?_
  rw [List.mem_filter, List.mem_filter, next_mem hg h, keepQ_mem]
  have key1 : ∀ x : Item, inField key fld x = true → takes q node x = false := fun x hx => by
    cases c : takes q node x
    · rfl
    · have h1 := takes_in c
      simp only [inField, Bool.and_eq_true, decide_eq_true_eq] at h1 hx
      exact absurd ⟨h1.1.symm.trans hx.1, h1.2.symm.trans hx.2⟩ hne
  constructor
  · rintro ⟨⟨h1, _⟩ | ⟨_, rfl⟩, h2⟩
    · exact ⟨h1, h2⟩
    · simp only [inField, madeE, a1, a2, Bool.and_eq_true, decide_eq_true_eq] at h2
      exact absurd h2 hne
  · rintro ⟨h1, h2⟩
    exact ⟨.inl ⟨h1, key1 x h2⟩, h2⟩
theorem fin_other {node seq : Int} {key fld : ByteArray} : ∀ (qs : List Req) (i : Nat) (l : List Item), Good node seq i l → okE node seq i l qs → (∀ q ∈ qs, ¬ (q.f1 = key ∧ q.f2 = fld)) → (finI node seq i l qs).filter (inField key fld) = l.filter (inField key fld)
  | [], i, l, hg, ok, hn => rfl
  | q :: qs, i, l, hg, ok, hn => by
    rw [finI, fin_other qs _ _ (next_good hg ok.1) ok.2 fun q hq => hn q (.tail _ hq)]
    exact next_other hg ok.1 (hn q (.head _))
theorem fin_app (node seq : Int) : ∀ (a b : List Req) (i : Nat) (l : List Item), finI node seq i l (a ++ b) = finI node seq (i + a.length) (finI node seq i l a) b ∧ (okE node seq i l (a ++ b) → okE node seq i l a ∧ okE node seq (i + a.length) (finI node seq i l a) b)
  | [], b, i, l => ⟨rfl, fun h => ⟨trivial, h⟩⟩
  | q :: a, b, i, l => by
    obtain ⟨h1, h2⟩ := fin_app node seq a b (i + 1) (nextI node seq i l q)
    have e : i + (q :: a).length = i + 1 + a.length := by rw [List.length_cons]; omega
    rw [e]
    exact ⟨h1, fun h => ⟨⟨h.1, (h2 h.2).1⟩, (h2 h.2).2⟩⟩
/-- Is a field as a request asked? -/
def askedB (q : Req) (v : Val) : Bool := if q.f0 = 1 then v.f0.any (fun s => decide (s = q.f3)) else if q.f0 = 2 then !v.f0.any (fun s => decide (s = q.f3)) else if q.f0 = 3 then decide (v.f1 = [q.f3]) else if q.f0 = 5 then decide (v = emptyV) else true
theorem any_iff (l : List ByteArray) (s : ByteArray) : l.any (fun t => decide (t = s)) = true ↔ s ∈ l := by
  simp
theorem next_asked {node seq : Int} {i : Nat} {l : List Item} {q : Req} (hg : Good node seq i l) (h : (oneE node seq i l q).2.2 = 0) : askedB q (fieldV (nextI node seq i l q) q.f1 q.f2) = true := by
  obtain ⟨a0, a6, _, a1, a2, p1, p3, p4, p5⟩ := oneE_ok h
  have hm := next_mem hg h
  have hu := (next_good hg h).up
  generalize hn : nextI node seq i l q = m at *
  generalize oneE node seq i l q = r at *
  unfold askedB
  by_cases c1 : q.f0 = 1
  · rw [if_pos c1, any_iff]
    obtain ⟨_, b3, b4, _⟩ := p1 c1
    show q.f3 ∈ onceL _
    rw [onceL_mem]
    unfold pick
    refine List.mem_map.2 ⟨madeE node seq r.1, List.mem_filter.2 ⟨(hm _).2 (.inr ⟨by omega, rfl⟩), ?_⟩, ?_⟩
    · simp [sel, inField, madeE, a1, a2, b3]
    · exact b4
  · rw [if_neg c1]
    by_cases c2 : q.f0 = 2
    · rw [if_pos c2, Bool.not_eq_true', ← Bool.not_eq_true, any_iff]
      obtain ⟨_, b3, _⟩ := p5 c1 (by omega) (by omega)
      show ¬ q.f3 ∈ onceL _
      rw [onceL_mem]
      unfold pick
      intro hx
      obtain ⟨x, hx, e⟩ := List.mem_map.1 hx
      obtain ⟨hx, hs⟩ := List.mem_filter.1 hx
      rcases (hm x).1 hx with hx | ⟨h3, _⟩
      · have ht := (keepQ_mem.1 hx).2
        simp only [sel, Bool.and_eq_true, decide_eq_true_eq] at hs
        simp [takes, dropsQ, c1, c2, hs.1, hs.2, e] at ht
      · exact h3 b3
    · rw [if_neg c2]
      by_cases c3 : q.f0 = 3
      · rw [if_pos c3, decide_eq_true_eq]
        obtain ⟨_, b3, b4, _⟩ := p3 c3
        have e : m.filter (sel q.f1 q.f2 2) = [madeE node seq r.1] := by
          refine upI_ext (hu.filter _) (List.pairwise_singleton _ _) fun x => ?_
          rw [List.mem_filter, hm, List.mem_singleton]
          constructor
          · rintro ⟨hx | ⟨_, hx⟩, hs⟩
            · have ht := (keepQ_mem.1 hx).2
              simp only [sel, Bool.and_eq_true, decide_eq_true_eq] at hs
              simp [takes, dropsQ, c3, hs.1, hs.2] at ht
            · exact hx
          · rintro rfl
            exact ⟨.inr ⟨by omega, rfl⟩, by simp [sel, inField, madeE, a1, a2, b3]⟩
        show onceL (pick _ _ _) = _
        unfold pick
        rw [e]
        show onceL [r.1.f4] = _
        rw [b4]
        exact onceL_self (List.pairwise_singleton _ _)
      · rw [if_neg c3]
        by_cases c5 : q.f0 = 5
        · rw [if_pos c5, decide_eq_true_eq]
          obtain ⟨_, b3, _⟩ := p5 c1 c3 (by omega)
          have none : ∀ k : Int, m.filter (sel q.f1 q.f2 k) = [] := fun k => List.filter_eq_nil_iff.2 fun x hx hs => by
            rcases (hm x).1 hx with hx | ⟨h3, _⟩
            · have ht := (keepQ_mem.1 hx).2
              simp only [sel, Bool.and_eq_true, decide_eq_true_eq] at hs
              simp [takes, dropsQ, c5, hs.1] at ht
            · exact h3 b3
          unfold fieldV pick
          simp only [none, List.map_nil]
          unfold finV emptyV
          rw [onceL_self List.Pairwise.nil]
          rfl
        · rw [if_neg c5]
theorem fin_asked {node seq : Int} {qs : List Req} {l : List Item} (hr : Rng node seq) (hg : Good node seq 0 l) (hf : ∀ x ∈ l, formedI x = true) (hq : ∀ q ∈ qs, formedQ q = true) (h8 : qs.length ≤ 8) (ok : okE node seq 0 l qs) (i : Nat) (hi : i < qs.length) (hl : ∀ q ∈ qs.drop (i + 1), ¬ (q.f1 = qs[i].f1 ∧ q.f2 = qs[i].f2)) :
    askedB qs[i] (fieldV (finI node seq 0 l qs) qs[i].f1 qs[i].f2) = true := by
  have e : qs = qs.take i ++ qs[i] :: qs.drop (i + 1) := by rw [← List.drop_eq_getElem_cons hi, List.take_append_drop]
  obtain ⟨f1, f2⟩ := fin_app node seq (qs.take i) (qs[i] :: qs.drop (i + 1)) 0 l
  rw [← e] at f1 f2
  obtain ⟨ok1, ok2⟩ := f2 ok
  have g1 := run_right hr (qs.take i) 0 l hg hf (fun q h => hq q (List.mem_of_mem_take h)) (by simp; omega) ok1
  have e2 : (qs.take i).length = i := by simp; omega
  rw [e2] at f1 ok2 g1
  obtain ⟨h1, ok3⟩ := ok2
  rw [f1, finI]
  rw [Nat.zero_add] at *
  rw [field_congr (fin_other _ _ _ (next_good g1.1.1 h1) ok3 hl)]
  exact next_asked g1.1.1 h1
theorem fin_rest {node seq : Int} {qs : List Req} {l : List Item} {key fld : ByteArray} (hg : Good node seq 0 l) (ok : okE node seq 0 l qs) (hn : ∀ q ∈ qs, ¬ (q.f1 = key ∧ q.f2 = fld)) : fieldV (finI node seq 0 l qs) key fld = fieldV l key fld := field_congr (fin_other qs 0 l hg ok hn)
end Go.E2.S
