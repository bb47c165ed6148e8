/- Plain law: a cache: its one form, what trimming leaves, what using does. No program in sight. -/
import Derived.Test.YtiliffhopdiepaaVI6
namespace Go.E2.S
open Go Go.E2 Go.RowKit
set_option linter.unusedVariables false
set_option linter.unusedSimpArgs false
structure Cac where
  f0 : List Item
  f1 : List ByteArray
  f2 : List ByteArray
  f3 : Int
  deriving DecidableEq
abbrev encC (c : Cac) : List PV := [lI c.f0, lS c.f1, lS c.f2, .int .i64 c.f3]
/-! ### Uses -/
def inS (l : List ByteArray) (k : ByteArray) : Bool := l.any fun x => decide (x = k)
theorem inS_iff {l : List ByteArray} {k : ByteArray} : inS l k = true ↔ k ∈ l := by
  unfold inS
  rw [List.any_eq_true]
  exact ⟨fun ⟨x, h, e⟩ => of_decide_eq_true e ▸ h, fun h => ⟨k, h, by simp⟩⟩
theorem inS_not {l : List ByteArray} {k : ByteArray} : inS l k = false ↔ ¬ k ∈ l := by rw [← inS_iff, Bool.not_eq_true]
def addL (o : List ByteArray) (k : ByteArray) : List ByteArray := if inS o k = true then o else o ++ [k]
def usesL (old keys : List ByteArray) : List ByteArray := keys.foldl addL (old.filter fun k => inS keys k)
theorem fold_mem : ∀ (keys o : List ByteArray) (k : ByteArray), k ∈ keys.foldl addL o ↔ k ∈ o ∨ k ∈ keys
  | [], o, k => by simp
  | a :: keys, o, k => by
    rw [List.foldl_cons, fold_mem keys, List.mem_cons]
    unfold addL
    split
    · rename_i h
      rw [inS_iff] at h
      constructor
      · rintro (h | h)
        · exact .inl h
        · exact .inr (.inr h)
      · rintro (h1 | h1 | h1)
        · exact .inl h1
        · exact .inl (h1 ▸ h)
        · exact .inr h1
    · rw [List.mem_append, List.mem_singleton, or_assoc]
theorem fold_nodup : ∀ (keys o : List ByteArray), o.Nodup → (keys.foldl addL o).Nodup
  | [], o, h => h
  | a :: keys, o, h => by
    rw [List.foldl_cons]
    refine fold_nodup keys _ ?_
    unfold addL
    split
    · exact h
    · rename_i c
      rw [Bool.not_eq_true, inS_not] at c
      exact List.nodup_append.2 ⟨h, by simp, fun x hx y hy e => c (by rw [List.mem_singleton.1 hy] at e; exact e ▸ hx)⟩
theorem fold_len : ∀ (keys o : List ByteArray), (keys.foldl addL o).length ≤ o.length + keys.length
  | [], o => by simp
  | a :: keys, o => by
    rw [List.foldl_cons, List.length_cons]
    have := fold_len keys (addL o a)
    have h2 : (addL o a).length ≤ o.length + 1 := by
      unfold addL
      split <;> simp
    omega
theorem usesL_mem (old keys : List ByteArray) (k : ByteArray) : k ∈ usesL old keys ↔ k ∈ keys := by
  unfold usesL
  rw [fold_mem, List.mem_filter, inS_iff]
  exact ⟨fun h => h.elim (fun h => h.2) id, .inr⟩
theorem usesL_nodup {old : List ByteArray} (keys : List ByteArray) (h : old.Nodup) : (usesL old keys).Nodup := fold_nodup _ _ (h.filter _)
theorem filter_less {l : List ByteArray} {k : ByteArray} (hk : k ∈ l) : (l.filter fun x => !decide (x = k)).length < l.length := by
  refine Nat.lt_of_le_of_ne (List.length_filter_le _ _) fun e => ?_
  have := List.filter_eq_self.1 (List.filter_sublist.eq_of_length e) k hk
  simp at this
/-- Lists without repetition, with the same members: so long. -/
theorem nodup_le : ∀ {l m : List ByteArray}, l.Nodup → (∀ x ∈ l, x ∈ m) → l.length ≤ m.length
  | [], _, _, _ => by simp
  | a :: l, m, h, hm => by
    obtain ⟨h1, h2⟩ := List.nodup_cons.1 h
    have h3 := nodup_le (l := l) (m := m.filter fun x => !decide (x = a)) h2 fun x hx => List.mem_filter.2 ⟨hm x (.tail _ hx), by
      have : x ≠ a := fun e => h1 (e ▸ hx)
      simp [this]⟩
    have h4 := filter_less (hm a (.head _))
    rw [List.length_cons]
    omega
theorem nodup_len {l m : List ByteArray} (h : l.Nodup) (h' : m.Nodup) (hm : ∀ x, x ∈ l ↔ x ∈ m) : l.length = m.length :=
  Nat.le_antisymm (nodup_le h fun x hx => (hm x).1 hx) (nodup_le h' fun x hx => (hm x).2 hx)
theorem up_nodup {l : List ByteArray} (h : Up l) : l.Nodup := List.Pairwise.imp (S := fun a b => a ≠ b) (fun {a b} (h : bl a < bl b) (e : a = b) => by subst e; exact List.lt_irrefl _ h) h
theorem keysL_mem (l : List Item) (k : ByteArray) : k ∈ keysL l ↔ ∃ x ∈ l, x.f0 = k := by
  unfold keysL
  rw [onceL_mem, List.mem_map]
theorem keysL_len (l : List Item) : (keysL l).length ≤ l.length := by
  have := onceL_len (l.map Item.f0)
  rw [List.length_map] at this
  exact this
/-! ### A place in a rising list -/
def posL (l : List ByteArray) (k : ByteArray) : Nat := (l.filter fun x => decide (bl x < bl k)).length
def insL (l : List ByteArray) (k : ByteArray) : List ByteArray := l.take (posL l k) ++ k :: l.drop (posL l k)
theorem posL_le (l : List ByteArray) (k : ByteArray) : posL l k ≤ l.length := List.length_filter_le _ _
theorem posL_iff {k : ByteArray} : ∀ {l : List ByteArray}, Up l → ∀ (h : Nat) (hh : h < l.length), (bl l[h] < bl k ↔ h < posL l k)
  | [], _, h, hh => by simp at hh
  | x :: l, hu, h, hh => by
    obtain ⟨h1, h2⟩ := List.pairwise_cons.1 hu
    unfold posL
    by_cases c : bl x < bl k
    · rw [List.filter_cons_of_pos (by simpa using c), List.length_cons]
      cases h with
      | zero => simp [c]
      | succ h =>
        rw [List.getElem_cons_succ, posL_iff h2 h (by simpa using hh)]
        unfold posL
        omega
    · have e : l.filter (fun x => decide (bl x < bl k)) = [] := by
        rw [List.filter_eq_nil_iff]
        intro y hy
        simp only [decide_eq_true_eq]
        exact fun q => c (List.lt_trans (h1 y hy) q)
      rw [List.filter_cons_of_neg (by simpa using c), e]
      cases h with
      | zero => simp [c]
      | succ h =>
        rw [List.getElem_cons_succ]
        have hh' : h < l.length := by simpa using hh
        have hy := h1 l[h] (List.getElem_mem _)
        simp only [List.length_nil, Nat.not_lt_zero, iff_false]
        exact fun q => c (List.lt_trans hy q)
theorem insL_mem (l : List ByteArray) (k x : ByteArray) : x ∈ insL l k ↔ x = k ∨ x ∈ l := by
  unfold insL
  have e : x ∈ l ↔ x ∈ l.take (posL l k) ∨ x ∈ l.drop (posL l k) := by rw [← List.mem_append, List.take_append_drop]
  rw [List.mem_append, List.mem_cons, e]
  constructor
  · rintro (h | h | h)
    · exact .inr (.inl h)
    · exact .inl h
    · exact .inr (.inr h)
  · rintro (h | h | h)
    · exact .inr (.inl h)
    · exact .inl h
    · exact .inr (.inr h)
theorem insL_len (l : List ByteArray) (k : ByteArray) : (insL l k).length = l.length + 1 := by
  have := posL_le l k
  unfold insL
  rw [List.length_append, List.length_cons, List.length_take, List.length_drop]
  omega
theorem insL_up {l : List ByteArray} {k : ByteArray} (h : Up l) (hk : k ∉ l) : Up (insL l k) := by
  have e := List.take_append_drop (posL l k) l
  have h' : Up (l.take (posL l k) ++ l.drop (posL l k)) := by rw [e]; exact h
  obtain ⟨h1, h2, h3⟩ := List.pairwise_append.1 h'
  unfold insL
  refine List.pairwise_append.2 ⟨h1, List.pairwise_cons.2 ⟨fun y hy => ?_, h2⟩, fun x hx y hy => ?_⟩
  · obtain ⟨i, hi, rfl⟩ := List.getElem_of_mem hy
    rw [List.length_drop] at hi
    have q := (posL_iff (k := k) h (posL l k + i) (by omega))
    rw [List.getElem_drop]
    have hn : ¬ bl l[posL l k + i] < bl k := fun c => by have := q.1 c; omega
    have hm : l[posL l k + i] ∈ l := List.getElem_mem _
    exact blt_of (List.not_lt.1 hn) fun e => hk (by rw [bl_inj e]; exact hm)
  · rcases List.mem_cons.1 hy with rfl | hy
    · obtain ⟨i, hi, rfl⟩ := List.getElem_of_mem hx
      rw [List.length_take] at hi
      rw [List.getElem_take]
      exact (posL_iff h i (by omega)).2 (by omega)
    · exact h3 x hx y hy
/-! ### Putting away -/
def awayL (c : Cac) (k : ByteArray) : Cac := ⟨c.f0.filter fun x => !decide (x.f0 = k), c.f1.filter fun x => !decide (x = k), insL c.f2 k, c.f3⟩
def freeS (spare : List ByteArray) (k : ByteArray) : Bool := !inS spare k
def trimL (spare : List ByteArray) : Nat → Cac → Cac
  | 0, c => c
  | n + 1, c => if c.f3 < szI c.f0 then (match c.f1.find? (freeS spare) with | some k => trimL spare n (awayL c k) | none => c) else c
structure InvC (c : Cac) : Prop where
  up : UpI c.f0
  nd : c.f1.Nodup
  us : ∀ k, k ∈ c.f1 ↔ ∃ x ∈ c.f0, x.f0 = k
  gn : Up c.f2
  ap : ∀ x ∈ c.f0, x.f0 ∉ c.f2
  sh : ∀ x ∈ c.f0, shortI x = true
theorem InvC.away {c : Cac} (h : InvC c) {k : ByteArray} (hk : k ∈ c.f1) : InvC (awayL c k) where
  up := h.up.filter _
  nd := h.nd.filter _
  us q := by
    show q ∈ c.f1.filter _ ↔ ∃ x ∈ c.f0.filter _, _
    rw [List.mem_filter, h.us]
    constructor
    · rintro ⟨⟨x, hx, rfl⟩, hq⟩
      exact ⟨x, List.mem_filter.2 ⟨hx, hq⟩, rfl⟩
    · rintro ⟨x, hx, rfl⟩
      obtain ⟨h1, h2⟩ := List.mem_filter.1 hx
      exact ⟨⟨x, h1, rfl⟩, h2⟩
  gn := insL_up h.gn fun hg => by
    obtain ⟨x, hx, rfl⟩ := (h.us k).1 hk
    exact h.ap x hx hg
  ap x hx := by
    obtain ⟨h1, h2⟩ := List.mem_filter.1 hx
    show x.f0 ∉ insL c.f2 k
    rw [insL_mem]
    rintro (e | e)
    · simp [e] at h2
    · exact h.ap x h1 e
  sh x hx := h.sh x (List.mem_filter.1 hx).1
theorem InvC.trim {spare : List ByteArray} : ∀ (n : Nat) {c : Cac}, InvC c → InvC (trimL spare n c)
  | 0, c, h => h
  | n + 1, c, h => by
    unfold trimL
    split
    · split
      · rename_i k hk
        exact InvC.trim n (h.away (List.mem_of_find?_eq_some hk))
      · exact h
    · exact h
theorem away_less {c : Cac} {k : ByteArray} (hk : k ∈ c.f1) : (awayL c k).f1.length < c.f1.length := filter_less hk
/-- Behind a trimming all is within the bound, or nothing may be put away; what was put away is what may be. -/
theorem trim_done {spare : List ByteArray} : ∀ (n : Nat) (c : Cac), c.f1.length ≤ n → (trimL spare n c).f3 < szI (trimL spare n c).f0 → ∀ k ∈ (trimL spare n c).f1, k ∈ spare
  | 0, c, h, _, k, hk => by
    have : c.f1 = [] := List.length_eq_zero_iff.1 (by omega)
    simp [trimL, this] at hk
  | n + 1, c, h, hs, k, hk => by
    unfold trimL at hs hk
    split at hk
    · rename_i c1
      rw [if_pos c1] at hs
      split at hk
      · rename_i q hq
        rw [hq] at hs
        exact trim_done n _ (by have := away_less (List.mem_of_find?_eq_some hq); omega) hs k hk
      · rename_i hq
        have := List.find?_eq_none.1 hq k hk
        simpa [freeS, inS_iff] using this
    · rename_i c1
      rw [if_neg c1] at hs
      exact absurd hs c1
theorem trim_gone {spare : List ByteArray} : ∀ (n : Nat) (c : Cac), ∀ k ∈ (trimL spare n c).f2, k ∈ c.f2 ∨ k ∉ spare
  | 0, c, k, hk => .inl hk
  | n + 1, c, k, hk => by
    unfold trimL at hk
    split at hk
    · split at hk
      · rename_i q hq
        rcases trim_gone n _ k hk with h | h
        · rcases (insL_mem c.f2 q k).1 h with h | h
          · subst h
            have := List.find?_some hq
            simp only [freeS, Bool.not_eq_true', inS_not] at this
            exact .inr this
          · exact .inl h
        · exact .inr h
      · exact .inl hk
    · exact .inl hk
theorem trim_bound {spare : List ByteArray} : ∀ (n : Nat) (c : Cac), (trimL spare n c).f3 = c.f3
  | 0, c => rfl
  | n + 1, c => by
    unfold trimL
    split
    · split
      · rw [trim_bound n]; rfl
      · rfl
    · rfl
/-- How long a cache's lists are. -/
def Len (c : Cac) (a g : Nat) : Prop := c.f0.length ≤ a ∧ c.f1.length ≤ a ∧ c.f2.length ≤ g
theorem trim_len {spare : List ByteArray} : ∀ (n : Nat) (c : Cac) {a g : Nat}, Len c a g → Len (trimL spare n c) a (g + n)
  | 0, c, a, g, h => h
  | n + 1, c, a, g, h => by
    unfold trimL
    obtain ⟨h0, h1, h2⟩ := h
    split
    · split
      · rename_i k hk
        have := trim_len n (awayL c k) (a := a) (g := g + 1) (spare := spare) ⟨Nat.le_trans (List.length_filter_le _ _) h0, Nat.le_trans (List.length_filter_le _ _) h1, by
          show (insL c.f2 k).length ≤ _
          rw [insL_len]
          omega⟩
        rw [Nat.add_assoc, Nat.add_comm 1 n] at this
        exact this
      · exact ⟨h0, h1, by omega⟩
    · exact ⟨h0, h1, by omega⟩
/-! ### What is done to a cache -/
def notIn (g : List ByteArray) (x : Item) : Bool := !inS g x.f0
def loadL (c : Cac) (l : List Item) (spare : List ByteArray) : Cac := trimL spare (usesL c.f1 (keysL (normL l))).length ⟨normL l, usesL c.f1 (keysL (normL l)), [], c.f3⟩
def leftL (c : Cac) (l : List Item) : List Item := (normL l).filter (notIn c.f2)
def changeL (c : Cac) (l : List Item) (spare : List ByteArray) : Cac := trimL spare (usesL c.f1 (keysL (leftL c l))).length ⟨leftL c l, usesL c.f1 (keysL (leftL c l)), c.f2, c.f3⟩
def useS (l : List ByteArray) (k : ByteArray) : List ByteArray := l.take (l.findIdx fun x => decide (x = k)) ++ l.drop (l.findIdx (fun x => decide (x = k)) + 1)
def useL (c : Cac) (k : ByteArray) : Cac := if inS c.f1 k = true then { c with f1 := useS c.f1 k ++ [k] } else c
def underL (c : Cac) (z : List ByteArray) : Cac := ⟨c.f0.filter fun x => coversL z x.f0, c.f1.filter (coversL z), c.f2.filter (coversL z), c.f3⟩
theorem useS_mem {l : List ByteArray} (h : l.Nodup) {k : ByteArray} (hk : k ∈ l) : (useS l k).Nodup ∧ ∀ x, x ∈ useS l k ↔ x ∈ l ∧ x ≠ k := by
  have ha : l.any (fun x => decide (x = k)) = true := by rw [List.any_eq_true]; exact ⟨k, hk, by simp⟩
  obtain ⟨h1, h2, h3, h4⟩ := idx_filter (fun x => decide (x = k)) l ha
  have e : l = l.take (l.findIdx fun x => decide (x = k)) ++ k :: l.drop (l.findIdx (fun x => decide (x = k)) + 1) := by
    have := List.take_append_drop (l.findIdx fun x => decide (x = k)) l
    rw [List.drop_eq_getElem_cons h1, of_decide_eq_true h2] at this
    exact this.symm
  unfold useS
  generalize l.take (l.findIdx fun x => decide (x = k)) = a at e
  generalize l.drop (l.findIdx (fun x => decide (x = k)) + 1) = b at e
  subst e
  obtain ⟨g1, g2, g3⟩ := List.nodup_append.1 h
  obtain ⟨g4, g5⟩ := List.nodup_cons.1 g2
  refine ⟨List.nodup_append.2 ⟨g1, g5, fun x hx y hy => g3 x hx y (.tail _ hy)⟩, fun x => ?_⟩
  rw [List.mem_append, List.mem_append, List.mem_cons]
  constructor
  · rintro (hx | hx)
    · exact ⟨.inl hx, fun e => g3 x hx k (.head _) e⟩
    · exact ⟨.inr (.inr hx), fun e => g4 (e ▸ hx)⟩
  · rintro ⟨hx | hx | hx, hn⟩
    · exact .inl hx
    · exact absurd hx hn
    · exact .inr hx
theorem useS_len {l : List ByteArray} {k : ByteArray} (hk : k ∈ l) : (useS l k).length + 1 = l.length := by
  have ha : l.any (fun x => decide (x = k)) = true := by rw [List.any_eq_true]; exact ⟨k, hk, by simp⟩
  obtain ⟨h1, _⟩ := idx_filter (fun x => decide (x = k)) l ha
  unfold useS
  rw [List.length_append, List.length_take, List.length_drop]
  omega
theorem useS_back (l : List ByteArray) (k : ByteArray) (h : k ∉ l) : useS (l ++ [k]) k = l := by
  have e : (l ++ [k]).findIdx (fun x => decide (x = k)) = l.length := by
    rw [List.findIdx_append]
    have h1 : l.findIdx (fun x => decide (x = k)) = l.length := List.findIdx_eq_length.2 fun x hx => by simp; exact fun e => h (e ▸ hx)
    rw [h1, if_neg (by omega)]
    simp
  unfold useS
  rw [e]
  simp
theorem InvC.under {c : Cac} (h : InvC c) (z : List ByteArray) : InvC (underL c z) where
  up := h.up.filter _
  nd := h.nd.filter _
  us q := by
    show q ∈ c.f1.filter _ ↔ ∃ x ∈ c.f0.filter _, _
    rw [List.mem_filter, h.us]
    constructor
    · rintro ⟨⟨x, hx, rfl⟩, hq⟩
      exact ⟨x, List.mem_filter.2 ⟨hx, hq⟩, rfl⟩
    · rintro ⟨x, hx, rfl⟩
      obtain ⟨h1, h2⟩ := List.mem_filter.1 hx
      exact ⟨⟨x, h1, rfl⟩, h2⟩
  gn := h.gn.filter _
  ap x hx hg := h.ap x (List.mem_filter.1 hx).1 (List.mem_filter.1 hg).1
  sh x hx := h.sh x (List.mem_filter.1 hx).1
theorem InvC.use {c : Cac} (h : InvC c) (k : ByteArray) : InvC (useL c k) := by
  unfold useL
  split
  · rename_i hk
    rw [inS_iff] at hk
    obtain ⟨h1, h2⟩ := useS_mem h.nd hk
    refine ⟨h.up, ?_, fun q => ?_, h.gn, h.ap, h.sh⟩
    · refine List.nodup_append.2 ⟨h1, by simp, fun x hx y hy e => ?_⟩
      rw [List.mem_singleton.1 hy] at e
      exact ((h2 x).1 hx).2 e
    · show q ∈ useS c.f1 k ++ [k] ↔ _
      rw [← h.us, List.mem_append, h2, List.mem_singleton]
      constructor
      · rintro (h | h)
        · exact h.1
        · exact h ▸ hk
      · intro hq
        by_cases e : q = k
        · exact .inr e
        · exact .inl ⟨hq, e⟩
  · exact h
theorem InvC.load0 {c : Cac} (h : InvC c) {l : List Item} (hl : ∀ x ∈ l, shortI x = true) : InvC ⟨normL l, usesL c.f1 (keysL (normL l)), [], c.f3⟩ := by
  refine ⟨normL_up l, usesL_nodup _ h.nd, fun k => ?_, List.Pairwise.nil, fun x _ => by simp, fun x hx => hl x (normL_mem.1 hx).1⟩
  show k ∈ usesL _ _ ↔ _
  rw [usesL_mem, keysL_mem]
theorem InvC.load {c : Cac} (h : InvC c) {l : List Item} (hl : ∀ x ∈ l, shortI x = true) (spare : List ByteArray) : InvC (loadL c l spare) := InvC.trim _ (h.load0 hl)
theorem leftL_mem {c : Cac} {l : List Item} {x : Item} (h : x ∈ leftL c l) : x ∈ l ∧ x.f0 ∉ c.f2 := by
  obtain ⟨h1, h2⟩ := List.mem_filter.1 h
  refine ⟨(normL_mem.1 h1).1, ?_⟩
  simpa [notIn, inS_not] using h2
theorem InvC.change0 {c : Cac} (h : InvC c) {l : List Item} (hl : ∀ x ∈ l, shortI x = true) : InvC ⟨leftL c l, usesL c.f1 (keysL (leftL c l)), c.f2, c.f3⟩ := by
  refine ⟨(normL_up l).filter _, usesL_nodup _ h.nd, fun k => ?_, h.gn, fun x hx => (leftL_mem hx).2, fun x hx => hl x (leftL_mem hx).1⟩
  show k ∈ usesL _ _ ↔ _
  rw [usesL_mem, keysL_mem]
theorem InvC.change {c : Cac} (h : InvC c) {l : List Item} (hl : ∀ x ∈ l, shortI x = true) (spare : List ByteArray) : InvC (changeL c l spare) := InvC.trim _ (h.change0 hl)
theorem use_len {c : Cac} {a g : Nat} (k : ByteArray) (h : Len c a g) : Len (useL c k) a g := by
  unfold useL
  split
  · rename_i hk
    rw [inS_iff] at hk
    have := useS_len hk
    obtain ⟨h0, h1, h2⟩ := h
    exact ⟨h0, by show (useS c.f1 k ++ [k]).length ≤ _; rw [List.length_append, List.length_singleton]; omega, h2⟩
  · exact h
theorem under_len {c : Cac} {a g : Nat} (z : List ByteArray) (h : Len c a g) : Len (underL c z) a g :=
  ⟨Nat.le_trans (List.length_filter_le _ _) h.1, Nat.le_trans (List.length_filter_le _ _) h.2.1, Nat.le_trans (List.length_filter_le _ _) h.2.2⟩
theorem usesL_len {old : List ByteArray} (keys : List ByteArray) (h : old.Nodup) (hk : keys.Nodup) : (usesL old keys).length = keys.length := nodup_len (usesL_nodup keys h) hk fun x => usesL_mem old keys x
theorem usesK_len {old : List ByteArray} (l : List Item) (h : old.Nodup) : (usesL old (keysL l)).length ≤ l.length := by
  rw [usesL_len (keysL l) h (up_nodup (onceL_up _))]
  exact keysL_len l
theorem load_len {c : Cac} (h : InvC c) {l : List Item} {a : Nat} (hl : l.length ≤ a) (spare : List ByteArray) : Len (loadL c l spare) a a := by
  have h1 := usesK_len (normL l) h.nd
  have h2 := normL_len l
  have := trim_len (spare := spare) (usesL c.f1 (keysL (normL l))).length ⟨normL l, usesL c.f1 (keysL (normL l)), [], c.f3⟩ (a := a) (g := 0) ⟨by show (normL l).length ≤ a; omega, by show (usesL c.f1 (keysL (normL l))).length ≤ a; omega, by simp⟩
  exact ⟨this.1, this.2.1, by have := this.2.2; unfold loadL; omega⟩
theorem change_len {c : Cac} (h : InvC c) {l : List Item} {a g : Nat} (hl : l.length ≤ a) (hg : c.f2.length ≤ g) (spare : List ByteArray) : Len (changeL c l spare) a (g + a) := by
  have h1 := usesK_len (leftL c l) h.nd
  have h2 := normL_len l
  have h3 : (leftL c l).length ≤ (normL l).length := List.length_filter_le _ _
  have := trim_len (spare := spare) (usesL c.f1 (keysL (leftL c l))).length ⟨leftL c l, usesL c.f1 (keysL (leftL c l)), c.f2, c.f3⟩ (a := a) (g := g) ⟨by show (leftL c l).length ≤ a; omega, by show (usesL c.f1 (keysL (leftL c l))).length ≤ a; omega, hg⟩
  exact ⟨this.1, this.2.1, by have := this.2.2; unfold changeL; omega⟩
end Go.E2.S
