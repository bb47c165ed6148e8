/- Lists of texts as sets: one rising list for each set; what begins with what; the texts of a list that begin with no other one. -/
import Derived.Test.YtciiodbkhilkmaaGOnce
import Derived.Test.YtciiodbkhilkmaaGZoneA
namespace Go.Proofs.Ytciiodbkhilkmaa.F
set_option linter.unusedVariables false
set_option linter.unusedSimpArgs false
open Go.Lib
def Up (l : List ByteArray) : Prop := l.Pairwise fun a b => bl a < bl b
theorem bl_inj {a b : ByteArray} (h : bl a = bl b) : a = b := by rw [← mkB_bl a, h, mkB_bl]
theorem blt_of {x y : List UInt8} (h : x ≤ y) (hne : x ≠ y) : x < y := Decidable.byContradiction fun c => hne (List.le_antisymm h (List.not_lt.1 c))
theorem up_ext : ∀ {l m : List ByteArray}, Up l → Up m → (∀ x, x ∈ l ↔ x ∈ m) → l = m
  | [], [], _, _, _ => rfl
  | [], b :: m, _, _, h => absurd ((h b).2 (.head _)) (by simp)
  | a :: l, [], _, _, h => absurd ((h a).1 (.head _)) (by simp)
  | a :: l, b :: m, hl, hm, h => by
    obtain ⟨ha, hl'⟩ := List.pairwise_cons.1 hl
    obtain ⟨hb, hm'⟩ := List.pairwise_cons.1 hm
    have e : a = b := by
      rcases List.mem_cons.1 ((h a).1 (.head _)) with e | e
      · exact e
      rcases List.mem_cons.1 ((h b).2 (.head _)) with e' | e'
      · exact e'.symm
      exact absurd (List.lt_trans (hb _ e) (ha _ e')) (List.lt_irrefl _)
    subst e
    congr 1
    refine up_ext hl' hm' fun x => ⟨fun hx => ?_, fun hx => ?_⟩
    · rcases List.mem_cons.1 ((h x).1 (.tail _ hx)) with e | e
      · subst e
        exact absurd (ha _ hx) (List.lt_irrefl _)
      · exact e
    · rcases List.mem_cons.1 ((h x).2 (.tail _ hx)) with e | e
      · subst e
        exact absurd (hb _ hx) (List.lt_irrefl _)
      · exact e
theorem compact_up (d : Array (List UInt8)) (hs : ∀ i j, i < j → j < d.size → d[i]! ≤ d[j]!) : ∀ m, m ≤ d.size → (compactUpTo d m).Pairwise (· < ·) ∧ ∀ x, x ∈ compactUpTo d m ↔ ∃ j, j < m ∧ d[j]! = x
  | 0, _ => by simp [compactUpTo]
  | m + 1, hm => by
    obtain ⟨h1, h2⟩ := compact_up d hs m (by omega)
    rw [compactUpTo_succ]
    have hle : ∀ x ∈ compactUpTo d m, 0 < m ∧ x ≤ d[m - 1]! := fun x hx => by
      obtain ⟨j, hj, rfl⟩ := (h2 x).1 hx
      refine ⟨by omega, ?_⟩
      by_cases e : j = m - 1
      · rw [e]; exact List.le_refl _
      · exact hs _ _ (by omega) (by omega)
    by_cases hk : keeps d m = true
    · rw [if_pos hk]
      refine ⟨List.pairwise_append.2 ⟨h1, by simp, fun x hx y hy => ?_⟩, fun x => ?_⟩
      · obtain rfl := List.mem_singleton.1 hy
        obtain ⟨h0, hx'⟩ := hle x hx
        have hne : d[m - 1]! ≠ d[m]! := fun e => by
          rw [keeps_neg h0 e.symm] at hk
          exact absurd hk (by simp)
        exact Std.lt_of_le_of_lt hx' (blt_of (hs _ _ (by omega) (by omega)) hne)
      · rw [List.mem_append, h2, List.mem_singleton]
        constructor
        · rintro (⟨j, hj, e⟩ | rfl)
          · exact ⟨j, by omega, e⟩
          · exact ⟨m, by omega, rfl⟩
        · rintro ⟨j, hj, e⟩
          by_cases h : j = m
          · subst h; exact .inr e.symm
          · exact .inl ⟨j, by omega, e⟩
    · rw [if_neg hk, List.append_nil]
      refine ⟨h1, fun x => ?_⟩
      rw [h2]
      constructor
      · rintro ⟨j, hj, e⟩
        exact ⟨j, by omega, e⟩
      · rintro ⟨j, hj, e⟩
        by_cases h : j = m
        · subst h
          have h0 : 0 < j := by
            rcases Nat.eq_zero_or_pos j with e | e
            · subst e; exact absurd (by simp [keeps]) hk
            · exact e
          refine ⟨j - 1, by omega, ?_⟩
          rw [← e]
          exact Decidable.byContradiction fun c => hk (keeps_pos (fun e => c e.symm))
        · exact ⟨j, by omega, e⟩
theorem sorted_get (l : List (List UInt8)) : ∀ i j, i < j → j < ((l.mergeSort fun x y => decide (x ≤ y)).toArray).size → ((l.mergeSort fun x y => decide (x ≤ y)).toArray)[i]! ≤ ((l.mergeSort fun x y => decide (x ≤ y)).toArray)[j]! := by
  intro i j hij hj
  have h := List.pairwise_mergeSort (le := fun x y : List UInt8 => decide (x ≤ y)) (fun a b c h1 h2 => by
    simp only [decide_eq_true_eq] at *
    exact List.le_trans h1 h2) (fun a b => by
    simp only [Bool.or_eq_true, decide_eq_true_eq]
    exact List.le_total a b) l
  have h3 := List.pairwise_iff_getElem.1 h i j (by simp at hj ⊢; omega) (by simpa using hj) hij
  simp only [decide_eq_true_eq] at h3
  have hi : i < ((l.mergeSort fun x y => decide (x ≤ y)).toArray).size := by omega
  rw [getElem!_pos _ i hi, getElem!_pos _ j hj]
  simpa using h3
theorem onceL_up (l : List ByteArray) : Up (onceL l) := by
  unfold Up onceL
  rw [List.pairwise_map]
  exact (compact_up _ (sorted_get _) _ (by simp)).1
theorem onceL_mem (l : List ByteArray) (x : ByteArray) : x ∈ onceL l ↔ x ∈ l := by
  unfold onceL
  rw [List.mem_map]
  constructor
  · rintro ⟨a, ha, rfl⟩
    obtain ⟨j, hj, rfl⟩ := ((compact_up _ (sorted_get _) _ (by simp)).2 a).1 ha
    have hm : ((l.map bl).mergeSort fun x y => decide (x ≤ y)).toArray[j]! ∈ l.map bl := by
      rw [getElem!_pos _ j (by simpa using hj)]
      exact (List.mergeSort_perm _ _).mem_iff.1 (List.getElem_mem _)
    obtain ⟨y, hy, e⟩ := List.mem_map.1 hm
    rw [← e, mkB_bl]
    exact hy
  · intro hx
    refine ⟨bl x, ?_, mkB_bl x⟩
    refine ((compact_up _ (sorted_get _) _ (by simp)).2 _).2 ?_
    have hm : bl x ∈ (l.map bl).mergeSort fun x y => decide (x ≤ y) := (List.mergeSort_perm _ _).mem_iff.2 (List.mem_map_of_mem hx)
    obtain ⟨j, hj, e⟩ := List.getElem_of_mem hm
    exact ⟨j, hj, by rw [getElem!_pos _ j (by simpa using hj)]; simpa using e⟩
theorem onceL_eq {l m : List ByteArray} (hm : Up m) (h : ∀ x, x ∈ l ↔ x ∈ m) : onceL l = m := up_ext (onceL_up l) hm fun x => (onceL_mem l x).trans (h x)
theorem onceL_congr {l m : List ByteArray} (h : ∀ x, x ∈ l ↔ x ∈ m) : onceL l = onceL m := onceL_eq (onceL_up m) fun x => (h x).trans (onceL_mem m x).symm
theorem onceL_self {l : List ByteArray} (h : Up l) : onceL l = l := onceL_eq h fun _ => Iff.rfl
theorem Up.filter {l : List ByteArray} (h : Up l) (p : ByteArray → Bool) : Up (l.filter p) := List.Pairwise.filter _ h
theorem onceL_len (l : List ByteArray) : (onceL l).length ≤ l.length := by
  unfold onceL
  rw [List.length_map]
  refine Nat.le_trans (compact_le _) ?_
  simp

/-! ### What begins with what -/
theorem hasP_iff {p s : ByteArray} : hasP p s = true ↔ bl p <+: bl s := List.isPrefixOf_iff_prefix
theorem hasP_refl (p : ByteArray) : hasP p p = true := hasP_iff.2 (List.prefix_refl _)
theorem hasP_trans {p q s : ByteArray} (h : hasP p q = true) (h' : hasP q s = true) : hasP p s = true := hasP_iff.2 ((hasP_iff.1 h).trans (hasP_iff.1 h'))
theorem hasP_anti {p q : ByteArray} (h : hasP p q = true) (h' : hasP q p = true) : p = q :=
  bl_inj ((hasP_iff.1 h).eq_of_length (Nat.le_antisymm (hasP_iff.1 h).length_le (hasP_iff.1 h').length_le))
theorem prefix_le : ∀ {p s : List UInt8}, p <+: s → p ≤ s
  | [], s, _ => List.nil_le _
  | a :: p, s, h => by
    obtain ⟨r, rfl⟩ := h
    rw [List.cons_append, List.cons_le_cons_iff]
    exact .inr ⟨rfl, prefix_le ⟨r, rfl⟩⟩
theorem prefix_between : ∀ {p q s : List UInt8}, p <+: s → p ≤ q → q ≤ s → p <+: q
  | [], _, _, _, _, _ => List.nil_prefix
  | a :: p, [], _, _, h, _ => absurd h (by simp)
  | a :: p, b :: q, [], h, _, _ => absurd h (by simp)
  | a :: p, b :: q, c :: s, h, h1, h2 => by
    obtain ⟨rfl, h3⟩ := List.cons_prefix_cons.1 h
    rw [List.cons_le_cons_iff] at h1 h2
    rcases h1 with h1 | ⟨rfl, h1⟩
    · rcases h2 with h2 | ⟨rfl, h2⟩
      · exact absurd (Std.lt_trans h1 h2) (Std.lt_irrefl)
      · exact absurd h1 (Std.lt_irrefl)
    · rcases h2 with h2 | ⟨_, h2⟩
      · exact absurd h2 (Std.lt_irrefl)
      · exact List.cons_prefix_cons.2 ⟨rfl, prefix_between h3 h1 h2⟩
/-- Does a text of a list begin with no other one? -/
def minB (l : List ByteArray) (p : ByteArray) : Bool := !l.any fun q => bl q != bl p && hasP q p
theorem minB_iff {l : List ByteArray} {p : ByteArray} : minB l p = true ↔ ∀ q ∈ l, hasP q p = true → q = p := by
  unfold minB
  simp only [Bool.not_eq_true', List.any_eq_false, Bool.and_eq_true, bne_iff_ne, not_and]
  exact ⟨fun h q hq hp => Decidable.byContradiction fun c => h q hq (fun e => c (bl_inj e)) hp, fun h q hq c hp => c (congrArg bl (h q hq hp))⟩
theorem minB_congr {l m : List ByteArray} (h : ∀ x, x ∈ l ↔ x ∈ m) (p : ByteArray) : minB l p = minB m p := by
  rw [Bool.eq_iff_iff, minB_iff, minB_iff]
  exact ⟨fun g q hq => g q ((h q).2 hq), fun g q hq => g q ((h q).1 hq)⟩
theorem min_of (l : List ByteArray) : ∀ (n : Nat) (q : ByteArray), (bl q).length ≤ n → q ∈ l → ∃ p ∈ l, minB l p = true ∧ hasP p q = true
  | n, q, hn, hq => by
    by_cases h : minB l q = true
    · exact ⟨q, hq, h, hasP_refl q⟩
    have : ∃ p ∈ l, hasP p q = true ∧ p ≠ q := Decidable.byContradiction fun c => h (minB_iff.2 fun p hp hpq => Decidable.byContradiction fun e => c ⟨p, hp, hpq, e⟩)
    obtain ⟨p, hp, hpq, e⟩ := this
    have hlt : (bl p).length < (bl q).length := by
      rcases Nat.lt_or_ge (bl p).length (bl q).length with h | h
      · exact h
      · exact absurd (bl_inj ((hasP_iff.1 hpq).eq_of_length (Nat.le_antisymm (hasP_iff.1 hpq).length_le h))) e
    cases n with
    | zero => omega
    | succ n =>
      obtain ⟨r, hr, h1, h2⟩ := min_of l n p (by omega) hp
      exact ⟨r, hr, h1, hasP_trans h2 hpq⟩
theorem covers_iff {l : List ByteArray} {k : ByteArray} : coversL l k = true ↔ ∃ p ∈ l, hasP p k = true := by unfold coversL; exact List.any_eq_true
theorem covers_min (l : List ByteArray) (k : ByteArray) : coversL (l.filter (minB l)) k = coversL l k := by
  rw [Bool.eq_iff_iff, covers_iff, covers_iff]
  constructor
  · rintro ⟨p, hp, h⟩
    exact ⟨p, (List.mem_filter.1 hp).1, h⟩
  · rintro ⟨p, hp, h⟩
    obtain ⟨r, hr, h1, h2⟩ := min_of l _ p (Nat.le_refl _) hp
    exact ⟨r, List.mem_filter.2 ⟨hr, h1⟩, hasP_trans h2 h⟩
theorem covers_congr {l m : List ByteArray} (h : ∀ x, x ∈ l ↔ x ∈ m) (k : ByteArray) : coversL l k = coversL m k := by
  rw [Bool.eq_iff_iff, covers_iff, covers_iff]
  exact ⟨fun ⟨p, hp, g⟩ => ⟨p, (h p).1 hp, g⟩, fun ⟨p, hp, g⟩ => ⟨p, (h p).2 hp, g⟩⟩
/-- One after the other of a rising list, each that doesn't begin with the last one kept. -/
def keepZ : List ByteArray → List ByteArray → List ByteArray
  | out, [] => out
  | out, p :: r => if out ≠ [] ∧ hasP (out.getLastD ByteArray.empty) p = true then keepZ out r else keepZ (out ++ [p]) r
theorem keepZ_min (s : List ByteArray) (hs : Up s) : ∀ (r d : List ByteArray), d ++ r = s → keepZ (d.filter (minB s)) r = s.filter (minB s)
  | [], d, e => by rw [List.append_nil] at e; rw [e]; rfl
  | p :: r, d, e => by
    have hp : p ∈ s := by rw [← e]; simp
    have hd : ∀ q ∈ d, bl q < bl p := fun q hq => by
      rw [← e] at hs
      exact (List.pairwise_append.1 hs).2.2 q hq p (.head _)
    have hr : ∀ q ∈ r, bl p < bl q := fun q hq => by
      rw [← e] at hs
      exact (List.pairwise_cons.1 (List.pairwise_append.1 hs).2.1).1 q hq
    have ih := keepZ_min s hs r (d ++ [p]) (by rw [List.append_assoc]; exact e)
    rw [List.filter_append] at ih
    have key : (d.filter (minB s) ≠ [] ∧ hasP ((d.filter (minB s)).getLastD ByteArray.empty) p = true) ↔ ¬ minB s p = true := by
      constructor
      · rintro ⟨hn, hl⟩ hm
        have hmem : (d.filter (minB s)).getLastD ByteArray.empty ∈ d.filter (minB s) := by
          rw [List.getLastD_eq_getLast?, List.getLast?_eq_some_getLast hn]
          exact List.getLast_mem hn
        have hmd := (List.mem_filter.1 hmem).1
        have := minB_iff.1 hm _ (by have h := List.mem_append_left (p :: r) hmd; rw [e] at h; exact h) hl
        have h2 := hd _ hmd
        rw [this] at h2
        exact List.lt_irrefl _ h2
      · intro hm
        obtain ⟨q, hq, hqm, hqp⟩ := min_of s _ p (Nat.le_refl _) hp
        have hne : q ≠ p := fun e => hm (e ▸ hqm)
        have hqd : q ∈ d := by
          rw [← e, List.mem_append, List.mem_cons] at hq
          rcases hq with hq | rfl | hq
          · exact hq
          · exact absurd rfl hne
          · exact absurd (prefix_le (hasP_iff.1 hqp)) (List.not_le.2 (hr q hq))
        have hqf : q ∈ d.filter (minB s) := List.mem_filter.2 ⟨hqd, hqm⟩
        have hn : d.filter (minB s) ≠ [] := List.ne_nil_of_mem hqf
        refine ⟨hn, ?_⟩
        rw [List.getLastD_eq_getLast?, List.getLast?_eq_some_getLast hn]
        show hasP ((d.filter (minB s)).getLast hn) p = true
        have hmem := List.getLast_mem hn
        obtain ⟨hmd, hmm⟩ := List.mem_filter.1 hmem
        have hle : bl q ≤ bl ((d.filter (minB s)).getLast hn) := by
          have hup : Up (d.filter (minB s)) := by
            rw [← e] at hs
            exact Up.filter (List.pairwise_append.1 hs).1 _
          have ha := (List.dropLast_concat_getLast hn).symm
          generalize (d.filter (minB s)).getLast hn = b at ha
          rw [ha] at hup hqf
          rcases List.mem_append.1 hqf with h | h
          · exact List.le_of_lt ((List.pairwise_append.1 hup).2.2 q h b (.head _))
          · rw [List.mem_singleton.1 h]; exact List.le_refl _
        have hb := prefix_between (hasP_iff.1 hqp) hle (List.le_of_lt (hd _ hmd))
        have := minB_iff.1 hmm q hq (hasP_iff.2 hb)
        rw [← this]
        exact hqp
    unfold keepZ
    by_cases hm : minB s p = true
    · rw [if_neg (fun c => key.1 c hm)]
      simpa [hm] using ih
    · rw [if_pos (key.2 hm)]
      simpa [hm] using ih
theorem keepZ_all (s : List ByteArray) (hs : Up s) : keepZ [] s = s.filter (minB s) := keepZ_min s hs s [] rfl
end Go.Proofs.Ytciiodbkhilkmaa.F
