/- ItemOrder, part 0: PSet, PEv, PNorm, PZone, PMins, PItem, PItemOrder, RowS, RowI, RowItemOrder. -/
import Derived.Test.YtciiodbkhilkmaaGOnce
import Derived.Test.YtciiodbkhilkmaaGZoneA
import Derived.Test.YtciiodbkhilkmaaGPred
import Derived.Sort.Walk0
import Derived.Test.YtciiodbkhilkmaaGNormB
import Derived.Test.YtciiodbkhilkmaaGConcat
import Derived.Test.YtciiodbkhilkmaaGZoneW
import Derived.Test.YtciiodbkhilkmaaF10
import Derived.Test.YtciiodbkhilkmaaF6
import Derived.Test.YtciiodbkhilkmaaF5
import Derived.Test.YtciiodbkhilkmaaF19
import Derived.Test.YtciiodbkhilkmaaF20
import Derived.Test.YtciiodbkhilkmaaF30
import Derived.Test.YtciiodbkhilkmaaF29
import Derived.Test.YtciiodbkhilkmaaF21
import Derived.Test.YtciiodbkhilkmaaF8
import Derived.Test.YtciiodbkhilkmaaF17
import Derived.Test.YtciiodbkhilkmaaF24
import Derived.Test.YtciiodbkhilkmaaF25
import Derived.Test.YtciiodbkhilkmaaF26
import Derived.Test.YtciiodbkhilkmaaGLess
import Derived.Test.YtciiodbkhilkmaaF27
import Derived.Test.YtciiodbkhilkmaaRows
import Derived.Deep.Slices
import Derived.ProofKit
import Derived.ChangeArms
import Derived.WalkKit
import Derived.OpenShut
import Derived.ShutString
import Derived.ChangeOld
import Derived.Below
import Derived.SizedLaws
import Derived.Carry
/- Lists of texts as sets: one rising list for each set; what begins with what; the texts of a list that begin with no other one. -/
namespace Go.Proofs.Ytciiodbkhilkmaa.F
set_option linter.unusedVariables false
set_option linter.unusedSimpArgs false
open Go.Lib
def Up (l : List ByteArray) : Prop := l.Pairwise fun a b => bl a < bl b
theorem bl_inj {a b : ByteArray} (h : bl a = bl b) : a = b := by rw [← mkB_bl a, h, mkB_bl]
theorem blt_of {x y : List UInt8} (h : x ≤ y) (hne : x ≠ y) : x < y := Decidable.byContradiction fun c => hne (List.le_antisymm h (List.not_lt.1 c))
theorem up_ext : ∀ {l m : List ByteArray}, Up l → Up m → (∀ x, x ∈ l ↔ x ∈ m) → l = m
  | [], [], _, _, _ => rfl
  | [], b :: m, _, _, h => absurd ((h b).2 (.head _)) (by simp)
  | a :: l, [], _, _, h => absurd ((h a).1 (.head _)) (by simp)
  | a :: l, b :: m, hl, hm, h => by
    obtain ⟨ha, hl'⟩ := List.pairwise_cons.1 hl
    obtain ⟨hb, hm'⟩ := List.pairwise_cons.1 hm
    have e : a = b := by
      rcases List.mem_cons.1 ((h a).1 (.head _)) with e | e
      · exact e
      rcases List.mem_cons.1 ((h b).2 (.head _)) with e' | e'
      · exact e'.symm
      exact absurd (List.lt_trans (hb _ e) (ha _ e')) (List.lt_irrefl _)
    subst e
    congr 1
    refine up_ext hl' hm' fun x => ⟨fun hx => ?_, fun hx => ?_⟩
    · rcases List.mem_cons.1 ((h x).1 (.tail _ hx)) with e | e
      · subst e
        exact absurd (ha _ hx) (List.lt_irrefl _)
      · exact e
    · rcases List.mem_cons.1 ((h x).2 (.tail _ hx)) with e | e
      · subst e
        exact absurd (hb _ hx) (List.lt_irrefl _)
      · exact e
theorem compact_up (d : Array (List UInt8)) (hs : ∀ i j, i < j → j < d.size → d[i]! ≤ d[j]!) : ∀ m, m ≤ d.size → (compactUpTo d m).Pairwise (· < ·) ∧ ∀ x, x ∈ compactUpTo d m ↔ ∃ j, j < m ∧ d[j]! = x
  | 0, _ => by simp [compactUpTo]
  | m + 1, hm => by
    obtain ⟨h1, h2⟩ := compact_up d hs m (by omega)
    rw [compactUpTo_succ]
    have hle : ∀ x ∈ compactUpTo d m, 0 < m ∧ x ≤ d[m - 1]! := fun x hx => by
      obtain ⟨j, hj, rfl⟩ := (h2 x).1 hx
      refine ⟨by omega, ?_⟩
      by_cases e : j = m - 1
      · rw [e]; exact List.le_refl _
      · exact hs _ _ (by omega) (by omega)
    by_cases hk : keeps d m = true
    · rw [if_pos hk]
      refine ⟨List.pairwise_append.2 ⟨h1, by simp, fun x hx y hy => ?_⟩, fun x => ?_⟩
      · obtain rfl := List.mem_singleton.1 hy
        obtain ⟨h0, hx'⟩ := hle x hx
        have hne : d[m - 1]! ≠ d[m]! := fun e => by
          rw [keeps_neg h0 e.symm] at hk
          exact absurd hk (by simp)
        exact Std.lt_of_le_of_lt hx' (blt_of (hs _ _ (by omega) (by omega)) hne)
      · rw [List.mem_append, h2, List.mem_singleton]
        constructor
        · rintro (⟨j, hj, e⟩ | rfl)
          · exact ⟨j, by omega, e⟩
          · exact ⟨m, by omega, rfl⟩
        · rintro ⟨j, hj, e⟩
          by_cases h : j = m
          · subst h; exact .inr e.symm
          · exact .inl ⟨j, by omega, e⟩
    · rw [if_neg hk, List.append_nil]
      refine ⟨h1, fun x => ?_⟩
      rw [h2]
      constructor
      · rintro ⟨j, hj, e⟩
        exact ⟨j, by omega, e⟩
      · rintro ⟨j, hj, e⟩
        by_cases h : j = m
        · subst h
          have h0 : 0 < j := by
            rcases Nat.eq_zero_or_pos j with e | e
            · subst e; exact absurd (by simp [keeps]) hk
            · exact e
          refine ⟨j - 1, by omega, ?_⟩
          rw [← e]
          exact Decidable.byContradiction fun c => hk (keeps_pos (fun e => c e.symm))
        · exact ⟨j, by omega, e⟩
theorem sorted_get (l : List (List UInt8)) : ∀ i j, i < j → j < ((l.mergeSort fun x y => decide (x ≤ y)).toArray).size → ((l.mergeSort fun x y => decide (x ≤ y)).toArray)[i]! ≤ ((l.mergeSort fun x y => decide (x ≤ y)).toArray)[j]! := by
  intro i j hij hj
  have h := List.pairwise_mergeSort (le := fun x y : List UInt8 => decide (x ≤ y)) (fun a b c h1 h2 => by
    simp only [decide_eq_true_eq] at *
    exact List.le_trans h1 h2) (fun a b => by
    simp only [Bool.or_eq_true, decide_eq_true_eq]
    exact List.le_total a b) l
  have h3 := List.pairwise_iff_getElem.1 h i j (by simp at hj ⊢; omega) (by simpa using hj) hij
  simp only [decide_eq_true_eq] at h3
  have hi : i < ((l.mergeSort fun x y => decide (x ≤ y)).toArray).size := by omega
  rw [getElem!_pos _ i hi, getElem!_pos _ j hj]
  simpa using h3
theorem onceL_up (l : List ByteArray) : Up (onceL l) := by
  unfold Up onceL
  rw [List.pairwise_map]
  exact (compact_up _ (sorted_get _) _ (by simp)).1
theorem onceL_mem (l : List ByteArray) (x : ByteArray) : x ∈ onceL l ↔ x ∈ l := by
  unfold onceL
  rw [List.mem_map]
  constructor
  · rintro ⟨a, ha, rfl⟩
    obtain ⟨j, hj, rfl⟩ := ((compact_up _ (sorted_get _) _ (by simp)).2 a).1 ha
    have hm : ((l.map bl).mergeSort fun x y => decide (x ≤ y)).toArray[j]! ∈ l.map bl := by
      rw [getElem!_pos _ j (by simpa using hj)]
      exact (List.mergeSort_perm _ _).mem_iff.1 (List.getElem_mem _)
    obtain ⟨y, hy, e⟩ := List.mem_map.1 hm
    rw [← e, mkB_bl]
    exact hy
  · intro hx
    refine ⟨bl x, ?_, mkB_bl x⟩
    refine ((compact_up _ (sorted_get _) _ (by simp)).2 _).2 ?_
    have hm : bl x ∈ (l.map bl).mergeSort fun x y => decide (x ≤ y) := (List.mergeSort_perm _ _).mem_iff.2 (List.mem_map_of_mem hx)
    obtain ⟨j, hj, e⟩ := List.getElem_of_mem hm
    exact ⟨j, hj, by rw [getElem!_pos _ j (by simpa using hj)]; simpa using e⟩
theorem onceL_eq {l m : List ByteArray} (hm : Up m) (h : ∀ x, x ∈ l ↔ x ∈ m) : onceL l = m := up_ext (onceL_up l) hm fun x => (onceL_mem l x).trans (h x)
theorem onceL_congr {l m : List ByteArray} (h : ∀ x, x ∈ l ↔ x ∈ m) : onceL l = onceL m := onceL_eq (onceL_up m) fun x => (h x).trans (onceL_mem m x).symm
theorem onceL_self {l : List ByteArray} (h : Up l) : onceL l = l := onceL_eq h fun _ => Iff.rfl
theorem Up.filter {l : List ByteArray} (h : Up l) (p : ByteArray → Bool) : Up (l.filter p) := List.Pairwise.filter _ h
theorem onceL_len (l : List ByteArray) : (onceL l).length ≤ l.length := by
  unfold onceL
  rw [List.length_map]
  refine Nat.le_trans (compact_le _) ?_
  simp

/-! ### What begins with what -/
theorem hasP_iff {p s : ByteArray} : hasP p s = true ↔ bl p <+: bl s := List.isPrefixOf_iff_prefix
theorem hasP_refl (p : ByteArray) : hasP p p = true := hasP_iff.2 (List.prefix_refl _)
theorem hasP_trans {p q s : ByteArray} (h : hasP p q = true) (h' : hasP q s = true) : hasP p s = true := hasP_iff.2 ((hasP_iff.1 h).trans (hasP_iff.1 h'))
theorem hasP_anti {p q : ByteArray} (h : hasP p q = true) (h' : hasP q p = true) : p = q :=
  bl_inj ((hasP_iff.1 h).eq_of_length (Nat.le_antisymm (hasP_iff.1 h).length_le (hasP_iff.1 h').length_le))
theorem prefix_le : ∀ {p s : List UInt8}, p <+: s → p ≤ s
  | [], s, _ => List.nil_le _
  | a :: p, s, h => by
    obtain ⟨r, rfl⟩ := h
    rw [List.cons_append, List.cons_le_cons_iff]
    exact .inr ⟨rfl, prefix_le ⟨r, rfl⟩⟩
theorem prefix_between : ∀ {p q s : List UInt8}, p <+: s → p ≤ q → q ≤ s → p <+: q
  | [], _, _, _, _, _ => List.nil_prefix
  | a :: p, [], _, _, h, _ => absurd h (by simp)
  | a :: p, b :: q, [], h, _, _ => absurd h (by simp)
  | a :: p, b :: q, c :: s, h, h1, h2 => by
    obtain ⟨rfl, h3⟩ := List.cons_prefix_cons.1 h
    rw [List.cons_le_cons_iff] at h1 h2
    rcases h1 with h1 | ⟨rfl, h1⟩
    · rcases h2 with h2 | ⟨rfl, h2⟩
      · exact absurd (Std.lt_trans h1 h2) (Std.lt_irrefl)
      · exact absurd h1 (Std.lt_irrefl)
    · rcases h2 with h2 | ⟨_, h2⟩
      · exact absurd h2 (Std.lt_irrefl)
      · exact List.cons_prefix_cons.2 ⟨rfl, prefix_between h3 h1 h2⟩
/-- Does a text of a list begin with no other one? -/
def minB (l : List ByteArray) (p : ByteArray) : Bool := !l.any fun q => bl q != bl p && hasP q p
theorem minB_iff {l : List ByteArray} {p : ByteArray} : minB l p = true ↔ ∀ q ∈ l, hasP q p = true → q = p := by
  unfold minB
  simp only [Bool.not_eq_true', List.any_eq_false, Bool.and_eq_true, bne_iff_ne, not_and]
  exact ⟨fun h q hq hp => Decidable.byContradiction fun c => h q hq (fun e => c (bl_inj e)) hp, fun h q hq c hp => c (congrArg bl (h q hq hp))⟩
theorem minB_congr {l m : List ByteArray} (h : ∀ x, x ∈ l ↔ x ∈ m) (p : ByteArray) : minB l p = minB m p := by
  rw [Bool.eq_iff_iff, minB_iff, minB_iff]
  exact ⟨fun g q hq => g q ((h q).2 hq), fun g q hq => g q ((h q).1 hq)⟩
theorem min_of (l : List ByteArray) : ∀ (n : Nat) (q : ByteArray), (bl q).length ≤ n → q ∈ l → ∃ p ∈ l, minB l p = true ∧ hasP p q = true
  | n, q, hn, hq => by
    by_cases h : minB l q = true
    · exact ⟨q, hq, h, hasP_refl q⟩
    have : ∃ p ∈ l, hasP p q = true ∧ p ≠ q := Decidable.byContradiction fun c => h (minB_iff.2 fun p hp hpq => Decidable.byContradiction fun e => c ⟨p, hp, hpq, e⟩)
    obtain ⟨p, hp, hpq, e⟩ := this
    have hlt : (bl p).length < (bl q).length := by
      rcases Nat.lt_or_ge (bl p).length (bl q).length with h | h
      · exact h
      · exact absurd (bl_inj ((hasP_iff.1 hpq).eq_of_length (Nat.le_antisymm (hasP_iff.1 hpq).length_le h))) e
    cases n with
    | zero => omega
    | succ n =>
      obtain ⟨r, hr, h1, h2⟩ := min_of l n p (by omega) hp
      exact ⟨r, hr, h1, hasP_trans h2 hpq⟩
theorem covers_iff {l : List ByteArray} {k : ByteArray} : coversL l k = true ↔ ∃ p ∈ l, hasP p k = true := by unfold coversL; exact List.any_eq_true
theorem covers_min (l : List ByteArray) (k : ByteArray) : coversL (l.filter (minB l)) k = coversL l k := by
  rw [Bool.eq_iff_iff, covers_iff, covers_iff]
  constructor
  · rintro ⟨p, hp, h⟩
    exact ⟨p, (List.mem_filter.1 hp).1, h⟩
  · rintro ⟨p, hp, h⟩
    obtain ⟨r, hr, h1, h2⟩ := min_of l _ p (Nat.le_refl _) hp
    exact ⟨r, List.mem_filter.2 ⟨hr, h1⟩, hasP_trans h2 h⟩
theorem covers_congr {l m : List ByteArray} (h : ∀ x, x ∈ l ↔ x ∈ m) (k : ByteArray) : coversL l k = coversL m k := by
  rw [Bool.eq_iff_iff, covers_iff, covers_iff]
  exact ⟨fun ⟨p, hp, g⟩ => ⟨p, (h p).1 hp, g⟩, fun ⟨p, hp, g⟩ => ⟨p, (h p).2 hp, g⟩⟩
/-- One after the other of a rising list, each that doesn't begin with the last one kept. -/
def keepZ : List ByteArray → List ByteArray → List ByteArray
  | out, [] => out
  | out, p :: r => if out ≠ [] ∧ hasP (out.getLastD ByteArray.empty) p = true then keepZ out r else keepZ (out ++ [p]) r
theorem keepZ_min (s : List ByteArray) (hs : Up s) : ∀ (r d : List ByteArray), d ++ r = s → keepZ (d.filter (minB s)) r = s.filter (minB s)
  | [], d, e => by rw [List.append_nil] at e; rw [e]; rfl
  | p :: r, d, e => by
    have hp : p ∈ s := by rw [← e]; simp
    have hd : ∀ q ∈ d, bl q < bl p := fun q hq => by
      rw [← e] at hs
      exact (List.pairwise_append.1 hs).2.2 q hq p (.head _)
    have hr : ∀ q ∈ r, bl p < bl q := fun q hq => by
      rw [← e] at hs
      exact (List.pairwise_cons.1 (List.pairwise_append.1 hs).2.1).1 q hq
    have ih := keepZ_min s hs r (d ++ [p]) (by rw [List.append_assoc]; exact e)
    rw [List.filter_append] at ih
    have key : (d.filter (minB s) ≠ [] ∧ hasP ((d.filter (minB s)).getLastD ByteArray.empty) p = true) ↔ ¬ minB s p = true := by
      constructor
      · rintro ⟨hn, hl⟩ hm
        have hmem : (d.filter (minB s)).getLastD ByteArray.empty ∈ d.filter (minB s) := by
          rw [List.getLastD_eq_getLast?, List.getLast?_eq_some_getLast hn]
          exact List.getLast_mem hn
        have hmd := (List.mem_filter.1 hmem).1
        have := minB_iff.1 hm _ (by have h := List.mem_append_left (p :: r) hmd; rw [e] at h; exact h) hl
        have h2 := hd _ hmd
        rw [this] at h2
        exact List.lt_irrefl _ h2
      · intro hm
        obtain ⟨q, hq, hqm, hqp⟩ := min_of s _ p (Nat.le_refl _) hp
        have hne : q ≠ p := fun e => hm (e ▸ hqm)
        have hqd : q ∈ d := by
          rw [← e, List.mem_append, List.mem_cons] at hq
          rcases hq with hq | rfl | hq
          · exact hq
          · exact absurd rfl hne
          · exact absurd (prefix_le (hasP_iff.1 hqp)) (List.not_le.2 (hr q hq))
        have hqf : q ∈ d.filter (minB s) := List.mem_filter.2 ⟨hqd, hqm⟩
        have hn : d.filter (minB s) ≠ [] := List.ne_nil_of_mem hqf
        refine ⟨hn, ?_⟩
        rw [List.getLastD_eq_getLast?, List.getLast?_eq_some_getLast hn]
        show hasP ((d.filter (minB s)).getLast hn) p = true
        have hmem := List.getLast_mem hn
        obtain ⟨hmd, hmm⟩ := List.mem_filter.1 hmem
        have hle : bl q ≤ bl ((d.filter (minB s)).getLast hn) := by
          have hup : Up (d.filter (minB s)) := by
            rw [← e] at hs
            exact Up.filter (List.pairwise_append.1 hs).1 _
          have ha := (List.dropLast_concat_getLast hn).symm
          generalize (d.filter (minB s)).getLast hn = b at ha
          rw [ha] at hup hqf
          rcases List.mem_append.1 hqf with h | h
          · exact List.le_of_lt ((List.pairwise_append.1 hup).2.2 q h b (.head _))
          · rw [List.mem_singleton.1 h]; exact List.le_refl _
        have hb := prefix_between (hasP_iff.1 hqp) hle (List.le_of_lt (hd _ hmd))
        have := minB_iff.1 hmm q hq (hasP_iff.2 hb)
        rw [← this]
        exact hqp
    unfold keepZ
    by_cases hm : minB s p = true
    · rw [if_neg (fun c => key.1 c hm)]
      simpa [hm] using ih
    · rw [if_pos (key.2 hm)]
      simpa [hm] using ih
theorem keepZ_all (s : List ByteArray) (hs : Up s) : keepZ [] s = s.filter (minB s) := keepZ_min s hs s [] rfl
end Go.Proofs.Ytciiodbkhilkmaa.F

/- What a function with fuel answers in the end; texts and their bytes at an index. -/
namespace Go.Proofs.Ytciiodbkhilkmaa.F
set_option linter.unusedVariables false
set_option linter.unusedSimpArgs false
open Go.RowKit Go.Proofs.YtciiodbkhilkmaaW.PrintWords Go.Proofs.YtciiodbkhilkmaaW.PrintLast Go.Proofs.YtciiodbkhilkmaaW.PrintMore
/-- With enough fuel the answer is v. -/
def Ev {α : Type} (f : Nat → Option α) (v : α) : Prop := ∃ n, ∀ k, n ≤ k → f k = some v
theorem Ev.const {α : Type} (v : α) : Ev (fun _ => some v) v := ⟨0, fun _ _ => rfl⟩
theorem Ev.of {α : Type} {o : Option α} {v : α} (h : o = some v) : Ev (fun _ => o) v := ⟨0, fun _ _ => h⟩
theorem Ev.bind {α β : Type} {f : Nat → Option α} {g : Nat → α → Option β} {v : α} {u : β} (h1 : Ev f v) (h2 : Ev (fun k => g k v) u) : Ev (fun k => (f k).bind (g k)) u := by
  obtain ⟨n, hn⟩ := h1
  obtain ⟨m, hm⟩ := h2
  exact ⟨max n m, fun k hk => by show (f k).bind (g k) = _; rw [hn k (by omega)]; exact hm k (by omega)⟩
theorem Ev.bindc {α β : Type} {o : Option α} {g : Nat → α → Option β} {v : α} {u : β} (h1 : o = some v) (h2 : Ev (fun k => g k v) u) : Ev (fun k => o.bind (g k)) u := Ev.bind (Ev.of h1) h2
theorem Ev.succ {α : Type} {f : Nat → Option α} {v : α} (h : Ev (fun k => f (k + 1)) v) : Ev f v := by
  obtain ⟨n, hn⟩ := h
  refine ⟨n + 1, fun k hk => ?_⟩
  obtain ⟨m, rfl⟩ : ∃ m, k = m + 1 := ⟨k - 1, by omega⟩
  exact hn m (by omega)
theorem Ev.get {α : Type} {f : Nat → Option α} {v : α} (h : Ev f v) : ∃ k, f k = some v := by
  obtain ⟨n, hn⟩ := h
  exact ⟨n, hn n (Nat.le_refl _)⟩
theorem Ev.pos {α : Type} {c : Prop} [Decidable c] {f g : Nat → Option α} {v : α} (hc : c) (h : Ev f v) : Ev (fun k => if c then f k else g k) v := by
  obtain ⟨n, hn⟩ := h
  exact ⟨n, fun k hk => by show (if c then f k else g k) = _; rw [if_pos hc]; exact hn k hk⟩
theorem Ev.neg {α : Type} {c : Prop} [Decidable c] {f g : Nat → Option α} {v : α} (hc : ¬ c) (h : Ev g v) : Ev (fun k => if c then f k else g k) v := by
  obtain ⟨n, hn⟩ := h
  exact ⟨n, fun k hk => by show (if c then f k else g k) = _; rw [if_neg hc]; exact hn k hk⟩
theorem Ev.ite {α : Type} {c : Prop} [Decidable c] {f g : Nat → Option α} {v u : α} (h1 : c → Ev f v) (h2 : ¬ c → Ev g u) : Ev (fun k => if c then f k else g k) (if c then v else u) := by
  by_cases hc : c
  · rw [if_pos hc]; exact Ev.pos hc (h1 hc)
  · rw [if_neg hc]; exact Ev.neg hc (h2 hc)
theorem Ev.eq {α : Type} {f : Nat → Option α} {v u : α} (h : Ev f v) (e : v = u) : Ev f u := e ▸ h
theorem wrap_add (i : Nat) (h : i < 4611686018427387904) : wrap64 ((i : Int) + 1) = ((i + 1 : Nat) : Int) := by
  unfold wrap64
  omega
theorem wrap_sub (i : Nat) (h : i < 4611686018427387904) : wrap64 (((i + 1 : Nat) : Int) - 1) = (i : Int) := by
  unfold wrap64
  omega
theorem toList_bl (x : ByteArray) : x.toList = bl x := Lib.toList_data x
theorem bl_len (x : ByteArray) : (bl x).length = x.size := (Lib.size_eq x).symm
theorem bt_get (x : ByteArray) (i : Nat) (h : i < (bl x).length) : bt x (i : Int) = (((bl x)[i].toNat : Nat) : Int) := by
  unfold bt
  rw [bl_len] at h
  rw [dif_pos (by simpa using h)]
  rfl
theorem less_bl (x y : ByteArray) : (Op.bytesLess x.toList y.toList = true) ↔ bl x < bl y := by rw [Go.Proofs.bytesLess_eq, toList_bl, toList_bl]; simp
end Go.Proofs.Ytciiodbkhilkmaa.F

/- A list of items in its one form: of each dot the least item, rising. -/
namespace Go.Proofs.Ytciiodbkhilkmaa.F
set_option linter.unusedVariables false
set_option linter.unusedSimpArgs false
open Go.RowKit Go.Sort Go.Proofs.YtciiodbkhilkmaaW.PrintWords Go.Proofs.YtciiodbkhilkmaaW.PrintLast Go.Proofs.YtciiodbkhilkmaaW.PrintMore
abbrev Item := S26
theorem lt_irreflI (x : Item) : ¬ cmpI x x < 0 := fun h => by have := (good_cmpI.anti x x).1 h; omega
theorem le_antisymmI {x y : Item} (h : cmpI x y ≤ 0) (h' : cmpI y x ≤ 0) : x = y := cmpI_zero x y (by
  have := good_cmpI.anti x y
  have := good_cmpI.anti y x
  omega)
theorem lt_transI {x y z : Item} (h : cmpI x y < 0) (h' : cmpI y z < 0) : cmpI x z < 0 := by
  have h1 := good_cmpI.trans x y z (by omega) (by omega)
  rcases Int.lt_or_eq_of_le h1 with h2 | h2
  · exact h2
  · obtain rfl := cmpI_zero x z h2
    have := (good_cmpI.anti x y).1 h
    omega
def UpI (l : List Item) : Prop := l.Pairwise fun x y => cmpI x y < 0 ∧ x.f5 ≠ y.f5
theorem upI_ext : ∀ {l m : List Item}, UpI l → UpI m → (∀ x, x ∈ l ↔ x ∈ m) → l = m
  | [], [], _, _, _ => rfl
  | [], b :: m, _, _, h => absurd ((h b).2 (.head _)) (by simp)
  | a :: l, [], _, _, h => absurd ((h a).1 (.head _)) (by simp)
  | a :: l, b :: m, hl, hm, h => by
    obtain ⟨ha, hl'⟩ := List.pairwise_cons.1 hl
    obtain ⟨hb, hm'⟩ := List.pairwise_cons.1 hm
    have e : a = b := by
      rcases List.mem_cons.1 ((h a).1 (.head _)) with e | e
      · exact e
      rcases List.mem_cons.1 ((h b).2 (.head _)) with e' | e'
      · exact e'.symm
      exact absurd (lt_transI (hb _ e).1 (ha _ e').1) (lt_irreflI _)
    subst e
    congr 1
    refine upI_ext hl' hm' fun x => ⟨fun hx => ?_, fun hx => ?_⟩
    · rcases List.mem_cons.1 ((h x).1 (.tail _ hx)) with e | e
      · subst e
        exact absurd (ha _ hx).1 (lt_irreflI _)
      · exact e
    · rcases List.mem_cons.1 ((h x).2 (.tail _ hx)) with e | e
      · subst e
        exact absurd (hb _ hx).1 (lt_irreflI _)
      · exact e
theorem keep_norm : ∀ (l : List Item) (seen : List S24), (l.Pairwise fun x y => cmpI x y ≤ 0) →
    UpI (keepS stepN seen l).1 ∧ ∀ x, x ∈ (keepS stepN seen l).1 ↔ x ∈ l ∧ x.f5 ∉ seen ∧ ∀ y ∈ l, y.f5 = x.f5 → cmpI x y ≤ 0
  | [], seen, _ => ⟨List.Pairwise.nil, fun x => by simp [keepS]⟩
  | a :: l, seen, h => by
    obtain ⟨ha, hl⟩ := List.pairwise_cons.1 h
    have hany : seen.any (dotEq a.f5) = true ↔ a.f5 ∈ seen := by
      rw [List.any_eq_true]
      constructor
      · rintro ⟨d, hd, e⟩; rw [(dotEq_iff _ _).1 e]; exact hd
      · intro hd; exact ⟨_, hd, (dotEq_iff _ _).2 rfl⟩
    by_cases c : a.f5 ∈ seen
    · obtain ⟨h1, h2⟩ := keep_norm l seen hl
      have e : (keepS stepN seen (a :: l)).1 = (keepS stepN seen l).1 := by
        show (if (stepN seen a).1 = true then keepS stepN (stepN seen a).2 l else _).1 = _
        have e2 : stepN seen a = (true, seen) := by unfold stepN seeD; rw [hany.2 c, if_pos rfl]
        rw [e2, if_pos rfl]
      rw [e]
      refine ⟨h1, fun x => ?_⟩
      rw [h2]
      constructor
      · rintro ⟨hx, hs, hm⟩
        refine ⟨.tail _ hx, hs, fun y hy hyx => ?_⟩
        rcases List.mem_cons.1 hy with rfl | hy
        · exact absurd (hyx ▸ c) hs
        · exact hm y hy hyx
      · rintro ⟨hx, hs, hm⟩
        rcases List.mem_cons.1 hx with rfl | hx
        · exact absurd c hs
        · exact ⟨hx, hs, fun y hy => hm y (.tail _ hy)⟩
    · obtain ⟨h1, h2⟩ := keep_norm l (seen ++ [a.f5]) hl
      have e : (keepS stepN seen (a :: l)).1 = a :: (keepS stepN (seen ++ [a.f5]) l).1 := by
        show (if (stepN seen a).1 = true then _ else (a :: (keepS stepN (stepN seen a).2 l).1, (keepS stepN (stepN seen a).2 l).2)).1 = _
        have e2 : stepN seen a = (false, seen ++ [a.f5]) := by
          unfold stepN seeD
          rw [Bool.eq_false_iff.2 (fun h => c (hany.1 h))]
          rfl
        rw [e2]
        rfl
      rw [e]
      refine ⟨List.pairwise_cons.2 ⟨fun y hy => ?_, h1⟩, fun x => ?_⟩
      · obtain ⟨hy1, hy2, _⟩ := (h2 y).1 hy
        have hne : a.f5 ≠ y.f5 := fun e => hy2 (by rw [e]; simp)
        refine ⟨?_, hne⟩
        rcases Int.lt_or_eq_of_le (ha y hy1) with h | h
        · exact h
        · exact absurd (congrArg _ (cmpI_zero _ _ h)) hne
      · rw [List.mem_cons, h2]
        constructor
        · rintro (rfl | ⟨hx, hs, hm⟩)
          · refine ⟨.head _, c, fun y hy _ => ?_⟩
            rcases List.mem_cons.1 hy with rfl | hy
            · have := lt_irreflI y
              have := good_cmpI.anti y y
              omega
            · exact ha y hy
          · refine ⟨.tail _ hx, fun h => hs (List.mem_append_left _ h), fun y hy hyx => ?_⟩
            rcases List.mem_cons.1 hy with rfl | hy
            · exact absurd (by rw [← hyx]; simp) hs
            · exact hm y hy hyx
        · rintro ⟨hx, hs, hm⟩
          rcases List.mem_cons.1 hx with rfl | hx
          · exact .inl rfl
          by_cases e : a.f5 = x.f5
          · exact .inl (le_antisymmI (hm a (.head _) e) (ha x hx))
          · refine .inr ⟨hx, fun h => ?_, fun y hy => hm y (.tail _ hy)⟩
            rcases List.mem_append.1 h with h | h
            · exact hs h
            · exact e (List.mem_singleton.1 h).symm
theorem sortI_sorted (l : List Item) : (sortI l).Pairwise fun x y => cmpI x y ≤ 0 := by
  have h := List.pairwise_mergeSort (le := fun x y : Item => !(ltOf cmpI) y x) (fun a b c h1 h2 => by
    simp only [ltOf, Bool.not_eq_true', decide_eq_false_iff_not] at *
    have := good_cmpI.anti b a
    have := good_cmpI.anti c b
    have := good_cmpI.anti c a
    have := good_cmpI.trans a b c (by omega) (by omega)
    omega) (fun a b => by
    simp only [ltOf, Bool.or_eq_true, Bool.not_eq_true', decide_eq_false_iff_not]
    have := good_cmpI.anti a b
    omega) l
  refine List.Pairwise.imp (fun {x y} h => ?_) h
  simp only [ltOf, Bool.not_eq_true', decide_eq_false_iff_not] at h
  have := good_cmpI.anti y x
  omega
theorem sortI_mem (l : List Item) (x : Item) : x ∈ sortI l ↔ x ∈ l := (List.mergeSort_perm l _).mem_iff
theorem normL_up (l : List Item) : UpI (normL l) := (keep_norm _ [] (sortI_sorted l)).1
theorem normL_mem {l : List Item} {x : Item} : x ∈ normL l ↔ x ∈ l ∧ ∀ y ∈ l, y.f5 = x.f5 → cmpI x y ≤ 0 := by
  have := (keep_norm _ [] (sortI_sorted l)).2 x
  rw [show normL l = (keepS stepN [] (sortI l)).1 from rfl, this, sortI_mem]
  constructor
  · rintro ⟨h1, _, h2⟩
    exact ⟨h1, fun y hy => h2 y ((sortI_mem l y).2 hy)⟩
  · rintro ⟨h1, h2⟩
    exact ⟨h1, by simp, fun y hy => h2 y ((sortI_mem l y).1 hy)⟩
theorem normL_eq {l m : List Item} (hm : UpI m) (h : ∀ x, x ∈ m ↔ x ∈ l ∧ ∀ y ∈ l, y.f5 = x.f5 → cmpI x y ≤ 0) : normL l = m := upI_ext (normL_up l) hm fun x => normL_mem.trans (h x).symm
theorem le_reflI (x : Item) : cmpI x x ≤ 0 := by
  have := good_cmpI.anti x x
  omega
theorem upI_dot : ∀ {m : List Item}, UpI m → ∀ x ∈ m, ∀ y ∈ m, x.f5 = y.f5 → x = y
  | [], _, x, hx, _, _, _ => absurd hx (by simp)
  | a :: m, h, x, hx, y, hy, e => by
    obtain ⟨ha, hm⟩ := List.pairwise_cons.1 h
    rcases List.mem_cons.1 hx with e1 | h1 <;> rcases List.mem_cons.1 hy with e2 | h2
    · rw [e1, e2]
    · exact absurd (e1 ▸ e) (ha y h2).2
    · exact absurd (e2 ▸ e).symm (ha x h1).2
    · exact upI_dot hm x h1 y h2 e
theorem normL_self {m : List Item} (hm : UpI m) : normL m = m := normL_eq hm fun x => ⟨fun hx => ⟨hx, fun y hy e => by rw [upI_dot hm y hy x hx e]; exact le_reflI x⟩, fun h => h.1⟩
theorem normL_congr {l m : List Item} (h : ∀ x, x ∈ l ↔ x ∈ m) : normL l = normL m := normL_eq (normL_up m) fun x => by
  rw [normL_mem, h]
  exact ⟨fun ⟨a, b⟩ => ⟨a, fun y hy => b y ((h y).1 hy)⟩, fun ⟨a, b⟩ => ⟨a, fun y hy => b y ((h y).2 hy)⟩⟩
theorem UpI.filter {m : List Item} (h : UpI m) (p : Item → Bool) : UpI (m.filter p) := List.Pairwise.filter _ h
end Go.Proofs.Ytciiodbkhilkmaa.F

/- Chapter 08: what zone's functions and the reference's answer, in the end. -/
namespace Go.Proofs.Ytciiodbkhilkmaa.F
set_option linter.unusedVariables false
set_option linter.unusedSimpArgs false
open Go.RowKit Go.Proofs.YtciiodbkhilkmaaW.PrintWords Go.Proofs.YtciiodbkhilkmaaW.PrintLast Go.Proofs.YtciiodbkhilkmaaW.PrintMore
def shortB (l : List ByteArray) : Bool := decide (l.length ≤ 60) && l.all fun x => decide (x.size ≤ 200)
theorem short_l0 (l : List ByteArray) (hl : l.length ≤ 60) : ∀ (n i : Nat), l.length = i + n → Ev (fun k => butteryref08_Short.l0 k l (i : Int)) ((l.drop i).all fun x => decide (x.size ≤ 200))
  | 0, i, h => Ev.succ (by
    simp only [butteryref08_Short.l0]
    exact Ev.neg (by omega) (Ev.eq (Ev.const _) (by rw [List.drop_of_length_le (by omega)]; rfl)))
  | n + 1, i, h => Ev.succ (by
    simp only [butteryref08_Short.l0]
    have hi : i < l.length := by omega
    refine Ev.pos (by omega) (Ev.pos (by omega) ?_)
    rw [rdOf_get _ _ _ hi, wrap_add i (by omega), List.drop_eq_getElem_cons hi, List.all_cons]
    by_cases c : l[i].size ≤ 200
    · exact Ev.neg (by omega) (Ev.eq (short_l0 l hl n (i + 1) (by omega)) (by simp [c]))
    · exact Ev.pos (by omega) (Ev.eq (Ev.const _) (by simp [c])))
theorem short_ev (l : List ByteArray) : Ev (fun k => butteryref08_Short.f k l) (shortB l) := by
  unfold butteryref08_Short.f shortB
  by_cases c : l.length ≤ 60
  · exact Ev.neg (by omega) (Ev.eq (short_l0 l c l.length 0 (by omega)) (by simp [c]))
  · exact Ev.pos (by omega) (Ev.eq (Ev.const _) (by simp [c]))
theorem short_iff {l : List ByteArray} : shortB l = true ↔ l.length ≤ 60 ∧ ∀ x ∈ l, x.size ≤ 200 := by simp [shortB]
theorem same_l0 (l m : List ByteArray) (hl : l.length < 1000000) (hm : l.length = m.length) : ∀ (n i : Nat), l.length = i + n → Ev (fun k => butteryref08_Same.l0 k l m (i : Int)) (decide (l.drop i = m.drop i))
  | 0, i, h => Ev.succ (by
    simp only [butteryref08_Same.l0]
    exact Ev.neg (by omega) (Ev.eq (Ev.const _) (by rw [List.drop_of_length_le (by omega), List.drop_of_length_le (by omega)]; simp)))
  | n + 1, i, h => Ev.succ (by
    simp only [butteryref08_Same.l0]
    have hi : i < l.length := by omega
    have hi2 : i < m.length := by omega
    refine Ev.pos (by omega) (Ev.pos (by omega) (Ev.pos (by omega) ?_))
    rw [rdOf_get _ _ _ hi, rdOf_get _ _ _ hi2, wrap_add i (by omega), List.drop_eq_getElem_cons hi, List.drop_eq_getElem_cons hi2, toList_bl, toList_bl]
    by_cases c : bl l[i] = bl m[i]
    · exact Ev.pos c (Ev.eq (same_l0 l m hl hm n (i + 1) (by omega)) (by rw [decide_eq_decide, bl_inj c]; exact ⟨congrArg _, fun e => (List.cons.inj e).2⟩))
    · exact Ev.neg c (Ev.eq (Ev.const _) (by rw [eq_comm, decide_eq_false_iff_not]; exact fun e => c (congrArg bl (List.cons.inj e).1))))
theorem same_ev (l m : List ByteArray) (hl : l.length < 1000000) : Ev (fun k => butteryref08_Same.f k l m) (decide (l = m)) := by
  unfold butteryref08_Same.f
  by_cases c : l.length = m.length
  · exact Ev.pos (by omega) (Ev.eq (same_l0 l m hl c l.length 0 (by omega)) (by simp))
  · exact Ev.neg (by omega) (Ev.eq (Ev.const _) (by simp [show l ≠ m from fun e => c (congrArg _ e)]))
theorem equal_l0 (l m : List ByteArray) (hl : l.length < 1000000) (hm : l.length = m.length) : ∀ (n i : Nat), l.length = i + n → Ev (fun k => slices_Equal_string_string.l0 k l m (l.length : Int) (i : Int)) (decide (l.drop i = m.drop i))
  | 0, i, h => Ev.succ (by
    simp only [slices_Equal_string_string.l0]
    exact Ev.neg (by omega) (Ev.eq (Ev.const _) (by rw [List.drop_of_length_le (by omega), List.drop_of_length_le (by omega)]; simp)))
  | n + 1, i, h => Ev.succ (by
    simp only [slices_Equal_string_string.l0]
    have hi : i < l.length := by omega
    have hi2 : i < m.length := by omega
    refine Ev.pos (by omega) (Ev.pos (by omega) (Ev.pos (by omega) (Ev.pos (by omega) ?_)))
    rw [rdOf_get _ _ _ hi, rdOf_get _ _ _ hi2, wrap_add i (by omega), List.drop_eq_getElem_cons hi, List.drop_eq_getElem_cons hi2, toList_bl, toList_bl]
    by_cases c : bl l[i] = bl m[i]
    · exact Ev.pos c (Ev.eq (equal_l0 l m hl hm n (i + 1) (by omega)) (by rw [decide_eq_decide, bl_inj c]; exact ⟨congrArg _, fun e => (List.cons.inj e).2⟩))
    · exact Ev.neg c (Ev.eq (Ev.const _) (by rw [eq_comm, decide_eq_false_iff_not]; exact fun e => c (congrArg bl (List.cons.inj e).1))))
theorem equal_ev (l m : List ByteArray) (hl : l.length < 1000000) : Ev (fun k => slices_Equal_string_string.f k l m) (decide (l = m)) := by
  unfold slices_Equal_string_string.f
  by_cases c : l.length = m.length
  · exact Ev.pos (by omega) (Ev.eq (equal_l0 l m hl c l.length 0 (by omega)) (by simp))
  · exact Ev.neg (by omega) (Ev.eq (Ev.const _) (by simp [show l ≠ m from fun e => c (congrArg _ e)]))

/-! ### Texts that may stand in a zone -/
def pcI (c : Nat) : Bool := decide (97 ≤ c ∧ c ≤ 122) || decide (48 ≤ c ∧ c ≤ 57) || c == 47
def pfx (p : ByteArray) : Bool := decide (p.size ≤ 16) && (bl p).all fun c => pcI c.toNat
theorem prefix_l0 (p : ByteArray) (hp : p.size ≤ 16) : ∀ (n i : Nat), p.size = i + n → Ev (fun k => zone_prefix.l0 k p (p.size : Int) (i : Int)) (((bl p).drop i).all fun c => pcI c.toNat)
  | 0, i, h => Ev.succ (by
    have := bl_len p
    simp only [zone_prefix.l0]
    exact Ev.neg (by omega) (Ev.eq (Ev.const _) (by rw [List.drop_of_length_le (by omega)]; rfl)))
  | n + 1, i, h => Ev.succ (by
    simp only [zone_prefix.l0]
    have hi : i < (bl p).length := by rw [bl_len]; omega
    refine Ev.pos (by omega) (Ev.pos (by omega) (Ev.pos (by omega) ?_))
    rw [bt_get p i hi, wrap_add i (by omega), List.drop_eq_getElem_cons hi, List.all_cons]
    have ih := prefix_l0 p hp n (i + 1) (by omega)
    generalize (bl p)[i].toNat = c at ih ⊢
    have yes : pcI c = true → Ev (fun k => zone_prefix.l0 k p (p.size : Int) ((i + 1 : Nat) : Int)) (pcI c && ((bl p).drop (i + 1)).all fun c => pcI c.toNat) := fun h => Ev.eq ih (by rw [h, Bool.true_and])
    have no : pcI c = false → Ev (fun _ => some false) (pcI c && ((bl p).drop (i + 1)).all fun c => pcI c.toNat) := fun h => Ev.eq (Ev.const _) (by rw [h, Bool.false_and])
    by_cases c1 : c < 97
    · refine Ev.pos (by omega) ?_
      by_cases c2 : c < 48
      · refine Ev.pos (by omega) ?_
        by_cases c3 : c = 47
        · exact Ev.pos (by omega) (yes (by simp [pcI, c3]))
        · exact Ev.neg (by omega) (no (by simp [pcI, c3]; omega))
      · refine Ev.neg (by omega) ?_
        by_cases c3 : c > 57
        · refine Ev.pos (by omega) (Ev.neg (by omega) (no (by simp [pcI]; omega)))
        · exact Ev.neg (by omega) (yes (by simp [pcI]; omega))
    · refine Ev.neg (by omega) ?_
      by_cases c2 : c > 122
      · exact Ev.pos (by omega) (Ev.neg (by omega) (Ev.pos (by omega) (Ev.neg (by omega) (no (by simp [pcI]; omega)))))
      · exact Ev.neg (by omega) (yes (by simp [pcI]; omega)))
theorem prefix_ev (p : ByteArray) : Ev (fun k => zone_prefix.f k p) (pfx p) := by
  unfold zone_prefix.f pfx
  by_cases c : p.size ≤ 16
  · exact Ev.neg (by omega) (Ev.eq (prefix_l0 p c p.size 0 (by omega)) (by simp [c]))
  · exact Ev.pos (by omega) (Ev.eq (Ev.const _) (by simp [c]))

/-! ### The one form -/
def walkZ : List ByteArray → List ByteArray → List ByteArray × Int
  | out, [] => if out.length > 8 then ([], 4) else (out, 0)
  | out, p :: r => if pfx p = true then (if out ≠ [] ∧ hasP (out.getLastD ByteArray.empty) p = true then walkZ out r else walkZ (out ++ [p]) r) else ([], 2)
def endZ (o : List ByteArray) : List ByteArray × Int := if o.length > 8 then ([], 4) else (o, 0)
theorem walkZ_eq : ∀ (r out : List ByteArray), walkZ out r = if r.all pfx = true then endZ (keepZ out r) else ([], 2)
  | [], out => rfl
  | p :: r, out => by
    unfold walkZ keepZ
    rw [List.all_cons]
    by_cases c : pfx p = true
    · rw [if_pos c, c, Bool.true_and]
      split
      · exact walkZ_eq r out
      · exact walkZ_eq r _
    · rw [if_neg c, if_neg (by simp [c])]
theorem last_rd (l : List ByteArray) (h : l ≠ []) (hl : l.length < 1000000) : rdOf ByteArray.empty l (wrap64 ((l.length : Int) - 1)) = l.getLastD ByteArray.empty ∧ 0 ≤ wrap64 ((l.length : Int) - 1) ∧ wrap64 ((l.length : Int) - 1) < (l.length : Int) := by
  obtain ⟨n, hn⟩ : ∃ n, l.length = n + 1 := ⟨l.length - 1, by have := List.length_pos_iff.2 h; omega⟩
  have e : l.getLastD ByteArray.empty = l[n] := by
    rw [List.getLastD_eq_getLast?, List.getLast?_eq_getElem?, show l.length - 1 = n by omega, List.getElem?_eq_getElem (by omega)]
    rfl
  rw [hn, wrap_sub n (by omega), rdOf_get _ _ n (by omega), e]
  exact ⟨rfl, by omega, by omega⟩
theorem norm_l0 (s : List ByteArray) (hs : s.length < 100000) : ∀ (n i : Nat) (out : List ByteArray), s.length = i + n → out.length ≤ i → Ev (fun k => zone_Norm.l0 k out s (s.length : Int) (i : Int)) (walkZ out (s.drop i))
  | 0, i, out, h, ho => Ev.succ (by
    simp only [zone_Norm.l0]
    rw [List.drop_of_length_le (by omega)]
    refine Ev.neg (by omega) ?_
    unfold walkZ
    by_cases c : out.length > 8
    · rw [if_pos c]; exact Ev.pos (by omega) (Ev.const _)
    · rw [if_neg c]; exact Ev.neg (by omega) (Ev.const _))
  | n + 1, i, out, h, ho => Ev.succ (by
    simp only [zone_Norm.l0]
    have hi : i < s.length := by omega
    refine Ev.pos (by omega) (Ev.pos (by omega) (Ev.pos (by omega) ?_))
    rw [rdOf_get _ _ _ hi, wrap_add i (by omega), List.drop_eq_getElem_cons hi]
    refine Ev.bind (prefix_ev _) ?_
    unfold walkZ
    have i1 := norm_l0 s hs n (i + 1) (out ++ [s[i]]) (by omega) (by simp; omega)
    have i2 := norm_l0 s hs n (i + 1) out (by omega) (by omega)
    by_cases c : pfx s[i] = true
    · rw [if_pos c]
      refine Ev.pos c ?_
      by_cases e : out = []
      · rw [if_neg (fun h => h.1 e)]
        exact Ev.pos (by simp [e]) (Ev.pos (by omega) i1)
      · have hlen := List.length_pos_iff.2 e
        obtain ⟨q1, q2, q3⟩ := last_rd out e (by omega)
        refine Ev.neg (by omega) (Ev.pos q2 (Ev.pos q3 ?_))
        rw [q1]
        refine Ev.bindc (v := hasP (out.getLastD ByteArray.empty) s[i]) rfl ?_
        by_cases c2 : hasP (out.getLastD ByteArray.empty) s[i] = true
        · rw [if_pos ⟨e, c2⟩]
          exact Ev.pos c2 i2
        · rw [if_neg (fun h => c2 h.2)]
          exact Ev.neg c2 (Ev.pos (by omega) i1)
    · rw [if_neg c]
      exact Ev.neg c (Ev.const _))
def normZ (l : List ByteArray) : List ByteArray × Int := if l.all pfx = true then endZ ((onceL l).filter (minB l)) else ([], 2)
theorem all_congr {l m : List ByteArray} (h : ∀ x, x ∈ l ↔ x ∈ m) (p : ByteArray → Bool) : l.all p = m.all p := by
  rw [Bool.eq_iff_iff, List.all_eq_true, List.all_eq_true]
  exact ⟨fun g x hx => g x ((h x).2 hx), fun g x hx => g x ((h x).1 hx)⟩
theorem norm_ev (l : List ByteArray) (hl : l.length < 10000) : Ev (fun k => zone_Norm.f k l) (normZ l) := by
  unfold zone_Norm.f
  have ho := onceL_len l
  refine Ev.bindc (v := onceL l) (by unfold zone_once.f; rw [if_pos (by unfold lim; omega)]) ?_
  refine Ev.eq (norm_l0 (onceL l) (by omega) (onceL l).length 0 [] (by omega) (by simp)) ?_
  rw [List.drop_zero, walkZ_eq, keepZ_all _ (onceL_up l), all_congr (onceL_mem l), show minB (onceL l) = minB l from funext (minB_congr (onceL_mem l))]
  rfl
def rightB (l : List ByteArray) : Bool := decide ((normZ l).2 = 0 ∧ (normZ l).1 = l)
theorem endZ_len (o : List ByteArray) : (endZ o).1.length ≤ 8 := by unfold endZ; split <;> simp; omega
theorem normZ_len (l : List ByteArray) : (normZ l).1.length ≤ 8 := by unfold normZ; split; exact endZ_len _; simp
theorem right_ev (l : List ByteArray) (hl : l.length < 10000) : Ev (fun k => zone_Right.f k l) (rightB l) := by
  unfold zone_Right.f rightB
  refine Ev.bind (norm_ev l hl) ?_
  by_cases c : (normZ l).2 = 0
  · refine Ev.pos c (Ev.bind (equal_ev _ l (by have := normZ_len l; omega)) (Ev.eq (Ev.const _) (by simp [c])))
  · exact Ev.neg c (Ev.eq (Ev.const _) (by simp [c]))
theorem union_ev (a b : List ByteArray) (ha : a.length < 5000) (hb : b.length < 5000) : Ev (fun k => zone_Union.f k a b) (normZ (a ++ b)) := by
  unfold zone_Union.f
  refine Ev.bindc (v := a ++ b) (by unfold slices_Concat_string_string.f; rw [show ([a, b] : List (List ByteArray)).flatten = a ++ b by simp, if_pos (by simp [lim]; omega)]) ?_
  refine Ev.bind (norm_ev _ (by simp; omega)) (Ev.const _)

/-! ### What both have -/
def both (p q : ByteArray) : List ByteArray := if hasP q p = true then [p] else if hasP p q = true then [q] else []
theorem both_len (p q : ByteArray) : (both p q).length ≤ 1 := by unfold both; split; simp; split <;> simp
def interL (a b : List ByteArray) : List ByteArray := onceL (a.flatMap fun p => b.flatMap (both p))
theorem inter_l1 (a b : List ByteArray) (hb : b.length < 10000) (p : ByteArray) (i : Nat) (hi : i < 10000) {v : List ByteArray} : ∀ (n j : Nat) (acc : List ByteArray), b.length = j + n → acc.length + n < 1000000000 →
    Ev (fun k => zone_Inter.l0 k b (acc ++ (b.drop j).flatMap (both p)) a (a.length : Int) ((i + 1 : Nat) : Int)) v → Ev (fun k => zone_Inter.l1 k b acc p a (a.length : Int) (i : Int) b (b.length : Int) (j : Int)) v
  | 0, j, acc, h, ha, hv => Ev.succ (by
    simp only [zone_Inter.l1]
    rw [List.drop_of_length_le (by omega), List.flatMap_nil, List.append_nil] at hv
    rw [wrap_add i (by omega)]
    exact Ev.neg (by omega) hv)
  | n + 1, j, acc, h, ha, hv => Ev.succ (by
    simp only [zone_Inter.l1]
    have hj : j < b.length := by omega
    refine Ev.pos (by omega) (Ev.pos (by omega) (Ev.pos (by omega) ?_))
    rw [rdOf_get _ _ _ hj, wrap_add j (by omega)]
    rw [List.drop_eq_getElem_cons hj, List.flatMap_cons, ← List.append_assoc] at hv
    refine Ev.bindc (v := hasP b[j] p) rfl ?_
    by_cases c : hasP b[j] p = true
    · refine Ev.pos c (Ev.pos (by omega) (inter_l1 a b hb p i hi n (j + 1) _ (by omega) (by simp; omega) ?_))
      simpa [both, c] using hv
    · refine Ev.neg c (Ev.bindc (v := hasP p b[j]) rfl ?_)
      by_cases c2 : hasP p b[j] = true
      · refine Ev.pos c2 (Ev.pos (by omega) (inter_l1 a b hb p i hi n (j + 1) _ (by omega) (by simp; omega) ?_))
        simpa [both, c, c2] using hv
      · refine Ev.neg c2 (inter_l1 a b hb p i hi n (j + 1) _ (by omega) (by omega) ?_)
        simpa [both, c, c2] using hv)
theorem flat_len {α β : Type} (f : α → List β) (h : ∀ x, (f x).length ≤ 1) : ∀ l : List α, (l.flatMap f).length ≤ l.length
  | [] => by simp
  | x :: l => by rw [List.flatMap_cons, List.length_append, List.length_cons]; have := h x; have := flat_len f h l; omega
theorem inter_l0 (a b : List ByteArray) (ha : a.length < 10000) (hb : b.length < 10000) : ∀ (n i : Nat) (acc : List ByteArray), a.length = i + n → acc.length ≤ i * 10000 →
    Ev (fun k => zone_Inter.l0 k b acc a (a.length : Int) (i : Int)) (onceL (acc ++ (a.drop i).flatMap fun p => b.flatMap (both p)))
  | 0, i, acc, h, hacc => Ev.succ (by
    simp only [zone_Inter.l0]
    rw [List.drop_of_length_le (by omega), List.flatMap_nil, List.append_nil]
    exact Ev.neg (by omega) (Ev.bindc (by unfold zone_once.f; rw [if_pos (by unfold lim; omega)]) (Ev.const _)))
  | n + 1, i, acc, h, hacc => Ev.succ (by
    simp only [zone_Inter.l0]
    have hi : i < a.length := by omega
    refine Ev.pos (by omega) (Ev.pos (by omega) (Ev.pos (by omega) ?_))
    rw [rdOf_get _ _ _ hi, List.drop_eq_getElem_cons hi, List.flatMap_cons, ← List.append_assoc]
    have hf := flat_len (both a[i]) (both_len _) b
    exact inter_l1 a b hb a[i] i (by omega) b.length 0 acc (by omega) (by omega) (inter_l0 a b ha hb n (i + 1) _ (by omega) (by rw [List.length_append, List.drop_zero]; omega)))
theorem inter_ev (a b : List ByteArray) (ha : a.length < 10000) (hb : b.length < 10000) : Ev (fun k => zone_Inter.f k a b) (interL a b) := by
  unfold zone_Inter.f
  exact inter_l0 a b ha hb a.length 0 [] (by omega) (by simp)
theorem without_val (a b : List ByteArray) (ha : a.length < 10000) : zone_Without.f a b = some (onceL (a.filter fun p => !coversL b p)) := by
  unfold zone_Without.f
  rw [if_pos (by unfold lim; omega)]
end Go.Proofs.Ytciiodbkhilkmaa.F

/- Chapter 08: the texts of a list that begin with no other one; a list's one form again; zones within each other; awake. -/
namespace Go.Proofs.Ytciiodbkhilkmaa.F
set_option linter.unusedVariables false
set_option linter.unusedSimpArgs false
open Go.RowKit Go.Proofs.YtciiodbkhilkmaaW.PrintWords Go.Proofs.YtciiodbkhilkmaaW.PrintLast Go.Proofs.YtciiodbkhilkmaaW.PrintMore
/-- The texts of a list that begin with no other one, rising. -/
def mins (l : List ByteArray) : List ByteArray := (onceL l).filter (minB l)
theorem mins_up (l : List ByteArray) : Up (mins l) := (onceL_up l).filter _
theorem mins_mem {l : List ByteArray} {x : ByteArray} : x ∈ mins l ↔ x ∈ l ∧ minB l x = true := by unfold mins; rw [List.mem_filter, onceL_mem]
theorem mins_congr {l m : List ByteArray} (h : ∀ x, x ∈ l ↔ x ∈ m) : mins l = mins m := by
  unfold mins
  rw [onceL_congr h, show minB l = minB m from funext (minB_congr h)]
theorem mins_covers (l : List ByteArray) (k : ByteArray) : coversL (mins l) k = coversL l k := by
  unfold mins
  rw [← show minB (onceL l) = minB l from funext (minB_congr (onceL_mem l)), covers_min]
  exact covers_congr (onceL_mem l) k
theorem mins_of {l : List ByteArray} (hu : Up l) (hm : ∀ p ∈ l, minB l p = true) : mins l = l := by
  unfold mins
  rw [onceL_self hu, List.filter_eq_self.2 hm]
theorem mins_mins (l : List ByteArray) : mins (mins l) = mins l := mins_of (mins_up l) fun p hp => minB_iff.2 fun q hq h => minB_iff.1 (mins_mem.1 hp).2 q (mins_mem.1 hq).1 h
theorem normZ_eq (l : List ByteArray) : normZ l = if l.all pfx = true then endZ (mins l) else ([], 2) := rfl
theorem normZ_ok {l : List ByteArray} (h : (normZ l).2 = 0) : (∀ p ∈ l, pfx p = true) ∧ (mins l).length ≤ 8 ∧ normZ l = (mins l, 0) := by
  rw [normZ_eq] at h ⊢
  by_cases c : l.all pfx = true
  · rw [if_pos c] at h ⊢
    unfold endZ at h ⊢
    by_cases c2 : (mins l).length > 8
    · rw [if_pos c2] at h; exact absurd h (by decide)
    · rw [if_neg c2]; exact ⟨List.all_eq_true.1 c, by omega, rfl⟩
  · rw [if_neg c] at h; exact absurd h (by decide)
theorem normZ_of {l : List ByteArray} (h1 : ∀ p ∈ l, pfx p = true) (h2 : (mins l).length ≤ 8) : normZ l = (mins l, 0) := by
  rw [normZ_eq, if_pos (List.all_eq_true.2 h1)]
  unfold endZ
  rw [if_neg (by omega)]
theorem normZ_bad {l : List ByteArray} (h : (normZ l).2 ≠ 0) : (normZ l).1 = [] := by
  rw [normZ_eq] at h ⊢
  by_cases c : l.all pfx = true
  · rw [if_pos c] at h ⊢
    unfold endZ at h ⊢
    by_cases c2 : (mins l).length > 8
    · rw [if_pos c2]
    · rw [if_neg c2] at h; exact absurd rfl h
  · rw [if_neg c]
theorem normZ_again {l : List ByteArray} (h : (normZ l).2 = 0) : normZ (normZ l).1 = normZ l := by
  obtain ⟨h1, h2, h3⟩ := normZ_ok h
  rw [h3]
  show normZ (mins l) = _
  rw [normZ_of (fun p hp => h1 p (mins_mem.1 hp).1) (by rw [mins_mins]; exact h2), mins_mins]
theorem right_iff {l : List ByteArray} : rightB l = true ↔ (∀ p ∈ l, pfx p = true) ∧ mins l = l ∧ l.length ≤ 8 := by
  unfold rightB
  rw [decide_eq_true_iff]
  constructor
  · rintro ⟨h, e⟩
    obtain ⟨h1, h2, h3⟩ := normZ_ok h
    rw [h3] at e
    have e : mins l = l := e
    exact ⟨h1, e, e ▸ h2⟩
  · rintro ⟨h1, h2, h3⟩
    rw [normZ_of h1 (by rw [h2]; exact h3)]
    exact ⟨rfl, h2⟩
theorem right_min {l : List ByteArray} (h : mins l = l) : Up l ∧ ∀ p ∈ l, ∀ q ∈ l, hasP q p = true → q = p := by
  refine ⟨h ▸ mins_up l, fun p hp => ?_⟩
  rw [← h] at hp
  exact minB_iff.1 (mins_mem.1 hp).2
def withinB (a b : List ByteArray) : Bool := !a.any fun p => !coversL b p
theorem within_val (a b : List ByteArray) : zone_Within.f a b = some (withinB a b) := rfl
theorem within_iff {a b : List ByteArray} : withinB a b = true ↔ ∀ p ∈ a, ∃ q ∈ b, hasP q p = true := by
  unfold withinB
  rw [Bool.not_eq_true', List.any_eq_false]
  constructor
  · intro h p hp
    have := h p hp
    simp only [Bool.not_eq_true', Bool.not_eq_false] at this
    exact covers_iff.1 this
  · intro h p hp
    simp [covers_iff.2 (h p hp)]

theorem awake_norm : normZ [(⟨#[97, 47, 98]⟩ : ByteArray), (⟨#[99]⟩ : ByteArray), (⟨#[97]⟩ : ByteArray)] = ([(⟨#[97]⟩ : ByteArray), (⟨#[99]⟩ : ByteArray)], 0) := by
  unfold normZ
  rw [onceL_eq (m := [(⟨#[97]⟩ : ByteArray), (⟨#[97, 47, 98]⟩ : ByteArray), (⟨#[99]⟩ : ByteArray)]) (by unfold Up; simp [bl]; decide) (fun x => by simp only [List.mem_cons, List.not_mem_nil, or_false]; grind)]
  rfl
theorem awake_ev : Ev (fun k => butterylaw08_awake.f k) true := by
  unfold butterylaw08_awake.f
  refine Ev.bind (norm_ev _ (by decide)) ?_
  rw [awake_norm]
  refine Ev.pos rfl (Ev.bind (same_ev _ _ (by decide)) ?_)
  refine Ev.pos (by decide) (Ev.bind (right_ev _ (by decide)) ?_)
  have hr : rightB [(⟨#[97]⟩ : ByteArray), (⟨#[99]⟩ : ByteArray)] = true := by
    have := normZ_again (l := [(⟨#[97, 47, 98]⟩ : ByteArray), (⟨#[99]⟩ : ByteArray), (⟨#[97]⟩ : ByteArray)]) (by rw [awake_norm])
    rw [awake_norm] at this
    unfold rightB
    rw [show normZ [(⟨#[97]⟩ : ByteArray), (⟨#[99]⟩ : ByteArray)] = _ from this]
    rfl
  exact Ev.pos hr (Ev.bindc (v := true) rfl (Ev.const _))
end Go.Proofs.Ytciiodbkhilkmaa.F

/- Chapter 09: short lists of items, the same lists, sizes, well-formed items; the layer is awake. -/
namespace Go.Proofs.Ytciiodbkhilkmaa.F
set_option linter.unusedVariables false
set_option linter.unusedSimpArgs false
open Go.RowKit Go.Proofs.YtciiodbkhilkmaaW.PrintWords Go.Proofs.YtciiodbkhilkmaaW.PrintLast Go.Proofs.YtciiodbkhilkmaaW.PrintMore
deriving instance DecidableEq for S24
deriving instance DecidableEq for S26
theorem rdI_get (l : List Item) (i : Nat) (h : i < l.length) : rd_T26 l (i : Int) = l[i] := by
  unfold rd_T26
  rw [List.getD_eq_getElem?_getD, Int.toNat_natCast, List.getElem?_eq_getElem h]
  rfl
def shortI (l : List Item) : Bool := decide (l.length ≤ 60) && l.all fun x => decide (x.f0.size ≤ 300) && (decide (x.f1.size ≤ 300) && decide (x.f3.size ≤ 300))
theorem shortI_l0 (l : List Item) (hl : l.length ≤ 60) : ∀ (n i : Nat), l.length = i + n → Ev (fun k => butteryref09_Short.l0 k l (i : Int)) ((l.drop i).all fun x => decide (x.f0.size ≤ 300) && (decide (x.f1.size ≤ 300) && decide (x.f3.size ≤ 300)))
  | 0, i, h => Ev.succ (by
    simp only [butteryref09_Short.l0]
    exact Ev.neg (by omega) (Ev.eq (Ev.const _) (by rw [List.drop_of_length_le (by omega)]; rfl)))
  | n + 1, i, h => Ev.succ (by
    simp only [butteryref09_Short.l0]
    have hi : i < l.length := by omega
    refine Ev.pos (by omega) (Ev.pos (by omega) ?_)
    rw [rdI_get _ _ hi, wrap_add i (by omega), List.drop_eq_getElem_cons hi, List.all_cons]
    by_cases c : l[i].f0.size ≤ 300
    · refine Ev.neg (by omega) ?_
      by_cases c1 : l[i].f1.size ≤ 300
      · refine Ev.neg (by omega) ?_
        by_cases c2 : l[i].f3.size ≤ 300
        · exact Ev.neg (by omega) (Ev.eq (shortI_l0 l hl n (i + 1) (by omega)) (by simp [c, c1, c2]))
        · exact Ev.pos (by omega) (Ev.eq (Ev.const _) (by simp [c2]))
      · exact Ev.pos (by omega) (Ev.eq (Ev.const _) (by simp [c1]))
    · exact Ev.pos (by omega) (Ev.eq (Ev.const _) (by simp [c])))
theorem shortI_ev (l : List Item) : Ev (fun k => butteryref09_Short.f k l) (shortI l) := by
  unfold butteryref09_Short.f shortI
  by_cases c : l.length ≤ 60
  · exact Ev.neg (by omega) (Ev.eq (shortI_l0 l c l.length 0 (by omega)) (by simp [c]))
  · exact Ev.pos (by omega) (Ev.eq (Ev.const _) (by simp [c]))
theorem shortI_iff {l : List Item} : shortI l = true ↔ l.length ≤ 60 ∧ ∀ x ∈ l, x.f0.size ≤ 300 ∧ x.f1.size ≤ 300 ∧ x.f3.size ≤ 300 := by simp [shortI]
theorem item_ne (x y : Item) : (!((x.f0.toList) == (y.f0.toList)) || (!((x.f1.toList) == (y.f1.toList)) || (!((x.f2) == (y.f2)) || (!((x.f3.toList) == (y.f3.toList)) || (!((x.f4) == (y.f4)) || ((!((x.f5.f0) == (y.f5.f0)) || (!((x.f5.f1) == (y.f5.f1)) || (!((x.f5.f2) == (y.f5.f2))))))))))) = true ↔ ¬ x = y := by
  obtain ⟨x0, x1, x2, x3, x4, ⟨x5, x6, x7⟩⟩ := x
  obtain ⟨y0, y1, y2, y3, y4, ⟨y5, y6, y7⟩⟩ := y
  simp only [toList_bl]
  have e : ∀ a b : ByteArray, bl a = bl b ↔ a = b := fun a b => ⟨bl_inj, congrArg bl⟩
  simp only [Bool.or_eq_true, Bool.not_eq_true', beq_eq_false_iff_ne, ne_eq, e, S26.mk.injEq, S24.mk.injEq]
  grind
theorem sameI_l0 (l m : List Item) (hl : l.length < 1000000) (hm : l.length = m.length) : ∀ (n i : Nat), l.length = i + n → Ev (fun k => butteryref09_Same.l0 k l m (i : Int)) (decide (l.drop i = m.drop i))
  | 0, i, h => Ev.succ (by
    simp only [butteryref09_Same.l0]
    exact Ev.neg (by omega) (Ev.eq (Ev.const _) (by rw [List.drop_of_length_le (by omega), List.drop_of_length_le (by omega)]; simp)))
  | n + 1, i, h => Ev.succ (by
    simp only [butteryref09_Same.l0]
    have hi : i < l.length := by omega
    have hi2 : i < m.length := by omega
    refine Ev.pos (by omega) (Ev.pos (by omega) (Ev.pos (by omega) ?_))
    rw [rdI_get _ _ hi, rdI_get _ _ hi2, wrap_add i (by omega), List.drop_eq_getElem_cons hi, List.drop_eq_getElem_cons hi2]
    by_cases c : l[i] = m[i]
    · exact Ev.neg (fun h => (item_ne _ _).1 h c) (Ev.eq (sameI_l0 l m hl hm n (i + 1) (by omega)) (by rw [decide_eq_decide, c]; exact ⟨congrArg _, fun e => (List.cons.inj e).2⟩))
    · exact Ev.pos ((item_ne _ _).2 c) (Ev.eq (Ev.const _) (by rw [eq_comm, decide_eq_false_iff_not]; exact fun e => c (List.cons.inj e).1)))
theorem sameI_ev (l m : List Item) (hl : l.length < 1000000) : Ev (fun k => butteryref09_Same.f k l m) (decide (l = m)) := by
  unfold butteryref09_Same.f
  by_cases c : l.length = m.length
  · exact Ev.pos (by omega) (Ev.eq (sameI_l0 l m hl c l.length 0 (by omega)) (by simp))
  · exact Ev.neg (by omega) (Ev.eq (Ev.const _) (by simp [show l ≠ m from fun e => c (congrArg _ e)]))
theorem norm_val (l : List Item) (hl : l.length < 1000000) : item_Norm.f l = some (normL l) := by
  unfold item_Norm.f
  rw [if_pos (by unfold lim; omega)]
theorem under_val (l : List Item) (z : List ByteArray) (hl : l.length < 1000000) : item_Under.f l z = some (l.filter fun x => coversL z x.f0) := by
  unfold item_Under.f
  rw [if_pos (by unfold lim; omega)]

def szI : List Item → Nat
  | [] => 0
  | x :: l => (x.f0.size + x.f1.size + x.f3.size + 24) + szI l
theorem wrap_nat (n : Nat) (h : n < 1000000000) : wrap64 (n : Int) = (n : Int) := by
  unfold wrap64
  omega
theorem wrap_sum (acc a b c : Nat) (ha : a ≤ 300) (hb : b ≤ 300) (hc : c ≤ 300) (h : acc ≤ 500000000) : wrap64 ((acc : Int) + wrap64 (wrap64 (wrap64 ((a : Int) + (b : Int)) + (c : Int)) + 24)) = ((acc + (a + b + c + 24) : Nat) : Int) := by
  have e24 : (24 : Int) = ((24 : Nat) : Int) := rfl
  rw [← Int.natCast_add a b, wrap_nat (a + b) (by omega), ← Int.natCast_add, wrap_nat (a + b + c) (by omega), e24, ← Int.natCast_add, wrap_nat (a + b + c + 24) (by omega), ← Int.natCast_add, wrap_nat _ (by omega)]
theorem size_l0 (l : List Item) (hl : l.length < 100000) (hs : ∀ x ∈ l, x.f0.size ≤ 300 ∧ x.f1.size ≤ 300 ∧ x.f3.size ≤ 300) : ∀ (n i acc : Nat), l.length = i + n → acc ≤ i * 1000 → Ev (fun k => item_Size.l0 k (acc : Int) l (l.length : Int) (i : Int)) ((acc + szI (l.drop i) : Nat) : Int)
  | 0, i, acc, h, ha => Ev.succ (by
    simp only [item_Size.l0]
    exact Ev.neg (by omega) (Ev.eq (Ev.const _) (by rw [List.drop_of_length_le (by omega)]; rfl)))
  | n + 1, i, acc, h, ha => Ev.succ (by
    simp only [item_Size.l0]
    have hi : i < l.length := by omega
    refine Ev.pos (by omega) (Ev.pos (by omega) (Ev.pos (by omega) ?_))
    rw [rdI_get _ _ hi, wrap_add i (by omega), List.drop_eq_getElem_cons hi]
    obtain ⟨s0, s1, s3⟩ := hs l[i] (List.getElem_mem hi)
    have e : wrap64 ((acc : Int) + wrap64 (wrap64 (wrap64 ((l[i].f0.size : Int) + (l[i].f1.size : Int)) + (l[i].f3.size : Int)) + 24)) = ((acc + (l[i].f0.size + l[i].f1.size + l[i].f3.size + 24) : Nat) : Int) := by
      exact wrap_sum acc _ _ _ s0 s1 s3 (by omega)
    rw [e]
    exact Ev.eq (size_l0 l hl hs n (i + 1) _ (by omega) (by omega)) (by rw [szI, Nat.add_assoc]))
theorem size_ev (l : List Item) (hl : l.length < 100000) (hs : ∀ x ∈ l, x.f0.size ≤ 300 ∧ x.f1.size ≤ 300 ∧ x.f3.size ≤ 300) : Ev (fun k => item_Size.f k l) ((szI l : Nat) : Int) := by
  unfold item_Size.f
  exact Ev.eq (size_l0 l hl hs l.length 0 0 (by omega) (by omega)) (by rw [List.drop_zero, Nat.zero_add])

/-! ### Awake -/
def aI : Item := ⟨⟨#[97]⟩, ⟨#[]⟩, 1, ⟨#[]⟩, 0, ⟨1, 1, 0⟩⟩
def bI : Item := ⟨⟨#[97]⟩, ⟨#[]⟩, 1, ⟨#[]⟩, 0, ⟨0, 2, 0⟩⟩
theorem awake_normI : normL [aI, bI, aI] = [bI, aI] := normL_eq (by
  have h : cmpI bI aI < 0 := by unfold cmpI cmpB; simp only [toList_bl]; decide
  have h2 : ¬ bI.f5 = aI.f5 := by decide
  unfold UpI
  simp [h, h2]) (fun x => by
  have h1 : cmpI aI aI ≤ 0 := le_reflI _
  have h2 : cmpI bI bI ≤ 0 := le_reflI _
  have h3 : aI.f5 ≠ bI.f5 := by decide
  simp only [List.mem_cons, List.not_mem_nil, or_false]
  constructor
  · rintro (rfl | rfl)
    · refine ⟨.inr (.inl rfl), ?_⟩
      rintro y (rfl | rfl | rfl) e
      · exact absurd e h3
      · exact h2
      · exact absurd e h3
    · refine ⟨.inl rfl, ?_⟩
      rintro y (rfl | rfl | rfl) e
      · exact h1
      · exact absurd e.symm h3
      · exact h1
  · rintro ⟨h | h | h, _⟩
    · exact .inr h
    · exact .inl h
    · exact .inr h)
theorem zkey_ev (key : ByteArray) : Ev (fun k => zone_Key.f k key) (decide (bl key ≠ []) && pfx key) := by
  unfold zone_Key.f
  rw [toList_bl]
  by_cases c : bl key = []
  · exact Ev.pos c (Ev.eq (Ev.const _) (by simp [c]))
  · exact Ev.neg c (Ev.bind (prefix_ev key) (Ev.eq (Ev.const _) (by simp [c])))
theorem awakeI_ev : Ev (fun k => butterylaw09_awake.f k) true := by
  unfold butterylaw09_awake.f
  have e := norm_val [aI, bI, aI] (by decide)
  rw [awake_normI] at e
  refine Ev.bindc e (Ev.bind (sameI_ev _ _ (by decide)) (Ev.pos (by decide) (Ev.bind (v := true) ?_ (Ev.pos rfl (Ev.bind (v := 50) ?_ (Ev.const _))))))
  · unfold item_Formed.f
    refine Ev.bind (zkey_ev _) (Ev.pos (by decide) (Ev.pos (by rw [toList_bl]; rfl) (Ev.succ ?_)))
    simp only [item_Formed.j0]
    refine Ev.neg (by decide) (Ev.pos (by first | trivial | decide) (Ev.succ ?_))
    simp only [item_Formed.j1]
    exact Ev.pos (by decide) (Ev.pos (by first | trivial | decide) (Ev.pos (by decide) (Ev.pos (by decide) (Ev.pos (by decide) (Ev.pos (by decide) (Ev.pos (by decide) (Ev.eq (Ev.const _) (by decide))))))))
  · exact size_ev [bI, aI] (by decide) (by decide)
end Go.Proofs.Ytciiodbkhilkmaa.F

/- Chapter 09: a list in its one form stands in order, has each dot once, is the same in it again; turned about, it comes to the same. -/
namespace Go.Proofs.Ytciiodbkhilkmaa.F
set_option linter.unusedVariables false
set_option linter.unusedSimpArgs false
open Go.RowKit Go.Proofs.YtciiodbkhilkmaaW.PrintWords Go.Proofs.YtciiodbkhilkmaaW.PrintLast Go.Proofs.YtciiodbkhilkmaaW.PrintMore
theorem normL_len (l : List Item) : (normL l).length ≤ l.length := by
  have h : ∀ (s : List Item) (seen : List S24), (keepS stepN seen s).1.length ≤ s.length := fun s => by
    induction s with
    | nil => intro seen; simp [keepS]
    | cons x s ih =>
      intro seen
      unfold keepS
      split
      · have := ih (stepN seen x).2; simp only [List.length_cons]; omega
      · have := ih (stepN seen x).2; simp only [List.length_cons]; omega
  have := h (sortI l) []
  have e : (sortI l).length = l.length := (List.mergeSort_perm l _).length_eq
  unfold normL
  omega
theorem wrap_down (i : Nat) (h : i < 1000000) : wrap64 (((i + 1 : Nat) : Int) - 1 - 1) = (i : Int) - 1 := by
  unfold wrap64
  omega
theorem wrap_top (i : Nat) (h : i < 1000000) : wrap64 ((i : Int) - 1) = (i : Int) - 1 := by
  unfold wrap64
  omega
theorem order_l2 (l : List Item) (hl : l.length ≤ 60) : ∀ (i : Nat), i ≤ l.length → Ev (fun k => butterylaw09_ItemOrder.l2 k l (normL l) (l.drop i).reverse ((i : Int) - 1)) true
  | 0, h => Ev.succ (by
    simp only [butterylaw09_ItemOrder.l2]
    have hn := normL_len l
    have e1 : normL (normL l) = normL l := normL_self (normL_up l)
    have e2 : normL (l.drop 0).reverse = normL l := normL_congr fun x => by simp
    refine Ev.neg (by omega) (Ev.bindc (norm_val _ (by omega)) ?_)
    rw [e1]
    refine Ev.bind (sameI_ev _ _ (by omega)) (Ev.pos (by simp) (Ev.bindc (norm_val _ (by simp; omega)) ?_))
    rw [e2]
    exact Ev.bind (sameI_ev _ _ (by omega)) (Ev.eq (Ev.const _) (by simp)))
  | i + 1, h => Ev.succ (by
    simp only [butterylaw09_ItemOrder.l2]
    have hi : i < l.length := by omega
    refine Ev.pos (by omega) (Ev.pos (by omega) (Ev.pos (by omega) (Ev.pos (by simp; omega) ?_)))
    rw [wrap_down i (by omega), show ((i + 1 : Nat) : Int) - 1 = (i : Int) by omega, rdI_get _ _ hi]
    have e : (l.drop (i + 1)).reverse ++ [l[i]] = (l.drop i).reverse := by rw [List.drop_eq_getElem_cons hi, List.reverse_cons]
    have ih := order_l2 l hl i (by omega)
    rw [← e] at ih
    exact ih)
theorem order_l1 (l n : List Item) (hn : n.length ≤ 60) (hu : UpI n) (i : Nat) (hi : i < n.length) (hv : Ev (fun k => butterylaw09_ItemOrder.l0 k l n ((i + 1 : Nat) : Int)) true) : ∀ (m j : Nat), i = j + m → Ev (fun k => butterylaw09_ItemOrder.l1 k l n (i : Int) (j : Int)) true
  | 0, j, h => Ev.succ (by
    simp only [butterylaw09_ItemOrder.l1]
    rw [wrap_add i (by omega)]
    exact Ev.neg (by omega) hv)
  | m + 1, j, h => Ev.succ (by
    simp only [butterylaw09_ItemOrder.l1]
    have hj : j < n.length := by omega
    obtain ⟨h1, h2⟩ := List.pairwise_iff_getElem.1 hu j i hj hi (by omega)
    refine Ev.pos (by omega) (Ev.pos (by omega) (Ev.pos (by omega) (Ev.pos (by omega) (Ev.pos (by omega) ?_))))
    rw [rdI_get _ _ hi, rdI_get _ _ hj, wrap_add j (by omega)]
    refine Ev.neg (fun c => ?_) (Ev.bindc (v := lessI n[j] n[i]) rfl (Ev.pos ?_ (order_l1 l n hn hu i hi hv m (j + 1) (by omega))))
    · have c : dotEq n[i].f5 n[j].f5 = true := c
      exact h2 ((dotEq_iff _ _).1 c).symm
    · unfold lessI
      exact decide_eq_true h1)
theorem order_l0 (l : List Item) (hl : l.length ≤ 60) : ∀ (m i : Nat), (normL l).length = i + m → Ev (fun k => butterylaw09_ItemOrder.l0 k l (normL l) (i : Int)) true
  | 0, i, h => Ev.succ (by
    have hn := normL_len l
    simp only [butterylaw09_ItemOrder.l0]
    refine Ev.neg (by omega) ?_
    rw [wrap_top _ (by omega)]
    have := order_l2 l hl l.length (Nat.le_refl _)
    rw [List.drop_of_length_le (Nat.le_refl _)] at this
    exact this)
  | m + 1, i, h => Ev.succ (by
    have hn := normL_len l
    simp only [butterylaw09_ItemOrder.l0]
    have hi : i < (normL l).length := by omega
    exact Ev.pos (by omega) (order_l1 l _ (by omega) (normL_up l) i hi (order_l0 l hl m (i + 1) (by omega)) i 0 (by omega)))
theorem order_law (l : List Item) : Ev (fun k => butterylaw09_ItemOrder.f k l) true := by
  unfold butterylaw09_ItemOrder.f
  refine Ev.bind awakeI_ev (Ev.pos rfl (Ev.bind (shortI_ev l) ?_))
  by_cases hl : shortI l = true
  rotate_left
  · exact Ev.neg hl (Ev.const _)
  have ll := (shortI_iff.1 hl).1
  exact Ev.pos hl (Ev.bindc (norm_val l (by omega)) (order_l0 l ll (normL l).length 0 (by omega)))
end Go.Proofs.Ytciiodbkhilkmaa.F

/- Arguments as the model reads them, opened in the words of the walks: a slice of anything; a slice of strings. -/
namespace Go.Proofs.Ytciiodbkhilkmaa.F
set_option linter.unusedVariables false
set_option linter.unusedSimpArgs false
open Go.RowKit Go.ChangeShapes Go.WideShapes Go.Proofs.YtciiodbkhilkmaaW.PrintWords Go.Proofs.YtciiodbkhilkmaaW.PrintLast Go.Proofs.YtciiodbkhilkmaaW.PrintMore
theorem open_row {H : Type} {enc : TypeId × Value → H} {P : Program} {w : World} {base : Nat} {spare : Nat → Bool} {held : Bool} {α : Type} [Inhabited α] (kd : Kd α) {t e : TypeId} {fuel : Nat} {a : Option Addr} {len cap : Nat} {x : DataW H × List MemPlace}
    (ht : P.underlying t = some (.slice e)) (hc : P.cellsOf e = kd.sz) (hel : ∀ n cs y, DataW.trod enc P w base spare held n e cs = some y → ∃ p, kd.K w p cs)
    (h : DataW.trod enc P w base spare held fuel t [.slice a len cap] = some x) : ∃ l : List α, l.length = len ∧ len ≤ cap ∧ kd.C w a len l := by
  rcases Go.Deep.open_slice ht h with ⟨hcs, _⟩ | ⟨ad, len', cap', m, n, D, Pl, hcs, _, hl, hm, hmm, _, hx⟩
  · simp only [List.cons.injEq, Value.slice.injEq, and_true] at hcs
    obtain ⟨rfl, rfl, rfl⟩ := hcs
    exact ⟨[], rfl, Nat.le_refl _, Kd.C_nil kd w⟩
  · simp only [List.cons.injEq, Value.slice.injEq, and_true] at hcs
    obtain ⟨rfl, rfl, rfl⟩ := hcs
    have hlm : len ≤ m := by rw [hmm]; split <;> omega
    obtain ⟨f, hf⟩ := Go.Deep.choose_lt (α := α) (n := len) (p := fun i p => ∃ cs', w.cells? base (ad.add (i * P.cellsOf e)) (P.cellsOf e) = some cs' ∧ kd.K w p cs') (fun i hi => by
      obtain ⟨cs', h1, h2⟩ := hx i (by omega)
      obtain ⟨p, hp⟩ := hel _ _ _ h2
      exact ⟨p, cs', h1, hp⟩)
    refine ⟨(List.range len).map f, by simp, hl, by simp, by simp only [maxLen] at hm; omega, fun _ => ⟨ad, rfl, fun j p hj => ?_⟩⟩
    obtain ⟨hjl, rfl⟩ := List.getElem?_eq_some_iff.1 hj
    simp only [List.length_map, List.length_range] at hjl
    simp only [List.getElem_map, List.getElem_range]
    obtain ⟨cs', h1, h2⟩ := hf j hjl
    obtain ⟨_, hlen, hcell⟩ := World.cells?_some h1
    refine ⟨cs', kd.K_len h2, h2, fun i u hu => ?_⟩
    obtain ⟨hi, _⟩ := List.getElem?_eq_some_iff.1 hu
    have := hcell i (by omega)
    rw [Go.Deep.add_add, hc] at this
    rw [this, hu]
theorem open_strs {H : Type} {enc : TypeId × Value → H} {w : World} {base : Nat} {spare : Nat → Bool} {held : Bool} {fuel : Nat} {a : Option Addr} {len cap : Nat} {x : DataW H × List MemPlace}
    (h : DataW.trod enc Try.prog w base spare held fuel 29 [.slice a len cap] = some x) : ∃ l : List ByteArray, l.length = len ∧ len ≤ cap ∧ Kd.string.C w a len l :=
  open_row Kd.string Try.underlying29 (by kernel_rfl) (fun n cs y hy => by
    obtain ⟨s, rfl, _⟩ := DataW.trod_string Try.underlying9 hy
    exact ⟨s, rfl⟩) h
end Go.Proofs.Ytciiodbkhilkmaa.F

/- Arguments as the model reads them, opened in the words of the walks: slices of items and of dots. -/
namespace Go.Proofs.Ytciiodbkhilkmaa.F
set_option linter.unusedVariables false
set_option linter.unusedSimpArgs false
open Go.RowKit Go.ChangeShapes Go.WideShapes Go.Proofs.YtciiodbkhilkmaaW.PrintWords Go.Proofs.YtciiodbkhilkmaaW.PrintLast Go.Proofs.YtciiodbkhilkmaaW.PrintMore
theorem list3 {α : Type} : ∀ {l : List α}, l.length = 3 → ∃ a b c, l = [a, b, c]
  | [a, b, c], _ => ⟨a, b, c, rfl⟩
theorem list6 {α : Type} : ∀ {l : List α}, l.length = 6 → ∃ a b c d e f, l = [a, b, c, d, e, f]
  | [a, b, c, d, e, f], _ => ⟨a, b, c, d, e, f, rfl⟩
theorem list8 {α : Type} : ∀ {l : List α}, l.length = 8 → ∃ a b c d e f g h, l = [a, b, c, d, e, f, g, h]
  | [a, b, c, d, e, f, g, h], _ => ⟨a, b, c, d, e, f, g, h, rfl⟩
section
variable {H : Type} {enc : TypeId × Value → H} {w : World} {base : Nat} {spare : Nat → Bool} {held : Bool}
instance : Inhabited S24 := ⟨⟨0, 0, 0⟩⟩
instance : Inhabited S26 := ⟨⟨ByteArray.empty, ByteArray.empty, 0, ByteArray.empty, 0, default⟩⟩
theorem trod_strE {n : Nat} {cs : List Value} {y : DataW H × List MemPlace} (h : DataW.trod enc Try.prog w base spare held n 9 cs = some y) : ∃ s : ByteArray, cs = [.string s] := by
  obtain ⟨s, h, _⟩ := DataW.trod_string Try.underlying9 h
  exact ⟨s, h⟩
theorem trod_intE {n : Nat} {cs : List Value} {y : DataW H × List MemPlace} (h : DataW.trod enc Try.prog w base spare held n 3 cs = some y) : ∃ s : Int, cs = [.int .i64 s] := by
  obtain ⟨s, h, _⟩ := DataW.trod_int Try.underlying3 h
  exact ⟨s, h⟩
theorem trod_int64E {n : Nat} {cs : List Value} {y : DataW H × List MemPlace} (h : DataW.trod enc Try.prog w base spare held n 2 cs = some y) : ∃ s : Int, cs = [.int .i64 s] := by
  obtain ⟨s, h, _⟩ := DataW.trod_int Try.underlying2 h
  exact ⟨s, h⟩
theorem trod_dotE {n : Nat} {cs : List Value} {y : DataW H × List MemPlace} (h : DataW.trod enc Try.prog w base spare held n 24 cs = some y) : ∃ d : S24, cs = [.int .i64 d.f0, .int .i64 d.f1, .int .i64 d.f2] := by
  obtain ⟨xs, m, _, _, hl, hx, hf⟩ := DataW.trod_struct Try.underlying24 h
  have hc : Try.prog.cellsOf 24 = 3 := by kernel_rfl
  have c1 : Try.prog.cellsOf 3 = 1 := by kernel_rfl
  rw [hc] at hl
  have hx : xs.length = 3 := hx
  obtain ⟨v0, v1, v2, rfl⟩ := list3 hl
  obtain ⟨x0, x1, x2, rfl⟩ := list3 hx
  have f0 : DataW.trod enc Try.prog w base spare held m 3 (([v0, v1, v2].drop 0).take (Try.prog.cellsOf 3)) = some x0 := hf 0 _ rfl
  have f1 : DataW.trod enc Try.prog w base spare held m 3 (([v0, v1, v2].drop 1).take (Try.prog.cellsOf 3)) = some x1 := hf 1 _ rfl
  have f2 : DataW.trod enc Try.prog w base spare held m 3 (([v0, v1, v2].drop 2).take (Try.prog.cellsOf 3)) = some x2 := hf 2 _ rfl
  rw [c1] at f0 f1 f2
  obtain ⟨s0, e0⟩ := trod_intE f0
  obtain ⟨s1, e1⟩ := trod_intE f1
  obtain ⟨s2, e2⟩ := trod_intE f2
  simp at e0 e1 e2
  subst e0 e1 e2
  exact ⟨⟨s0, s1, s2⟩, rfl⟩
theorem trod_itemE {n : Nat} {cs : List Value} {y : DataW H × List MemPlace} (h : DataW.trod enc Try.prog w base spare held n 26 cs = some y) : ∃ x : S26, cs = [.string x.f0, .string x.f1, .int .i64 x.f2, .string x.f3, .int .i64 x.f4, .int .i64 x.f5.f0, .int .i64 x.f5.f1, .int .i64 x.f5.f2] := by
  obtain ⟨xs, m, _, _, hl, hx, hf⟩ := DataW.trod_struct Try.underlying26 h
  have hc : Try.prog.cellsOf 26 = 8 := by kernel_rfl
  have c1 : Try.prog.cellsOf 3 = 1 := by kernel_rfl
  have c2 : Try.prog.cellsOf 9 = 1 := by kernel_rfl
  have c3 : Try.prog.cellsOf 2 = 1 := by kernel_rfl
  have c4 : Try.prog.cellsOf 24 = 3 := by kernel_rfl
  rw [hc] at hl
  have hx : xs.length = 6 := hx
  obtain ⟨v0, v1, v2, v3, v4, v5, v6, v7, rfl⟩ := list8 hl
  obtain ⟨x0, x1, x2, x3, x4, x5, rfl⟩ := list6 hx
  have f0 : DataW.trod enc Try.prog w base spare held m 9 (([v0, v1, v2, v3, v4, v5, v6, v7].drop 0).take (Try.prog.cellsOf 9)) = some x0 := hf 0 _ rfl
  have f1 : DataW.trod enc Try.prog w base spare held m 9 (([v0, v1, v2, v3, v4, v5, v6, v7].drop 1).take (Try.prog.cellsOf 9)) = some x1 := hf 1 _ rfl
  have f2 : DataW.trod enc Try.prog w base spare held m 3 (([v0, v1, v2, v3, v4, v5, v6, v7].drop 2).take (Try.prog.cellsOf 3)) = some x2 := hf 2 _ rfl
  have f3 : DataW.trod enc Try.prog w base spare held m 9 (([v0, v1, v2, v3, v4, v5, v6, v7].drop 3).take (Try.prog.cellsOf 9)) = some x3 := hf 3 _ rfl
  have f4 : DataW.trod enc Try.prog w base spare held m 2 (([v0, v1, v2, v3, v4, v5, v6, v7].drop 4).take (Try.prog.cellsOf 2)) = some x4 := hf 4 _ rfl
  have f5 : DataW.trod enc Try.prog w base spare held m 24 (([v0, v1, v2, v3, v4, v5, v6, v7].drop 5).take (Try.prog.cellsOf 24)) = some x5 := hf 5 _ rfl
  rw [c2] at f0 f1 f3
  rw [c1] at f2
  rw [c3] at f4
  rw [c4] at f5
  obtain ⟨s0, e0⟩ := trod_strE f0
  obtain ⟨s1, e1⟩ := trod_strE f1
  obtain ⟨s2, e2⟩ := trod_intE f2
  obtain ⟨s3, e3⟩ := trod_strE f3
  obtain ⟨s4, e4⟩ := trod_int64E f4
  obtain ⟨s5, e5⟩ := trod_dotE f5
  simp at e0 e1 e2 e3 e4 e5
  obtain ⟨e5, e6, e7⟩ := e5
  subst e0 e1 e2 e3 e4 e5 e6 e7
  exact ⟨⟨s0, s1, s2, s3, s4, s5⟩, rfl⟩
theorem open_items {fuel : Nat} {a : Option Addr} {len cap : Nat} {x : DataW H × List MemPlace}
    (h : DataW.trod enc Try.prog w base spare held fuel 22 [.slice a len cap] = some x) : ∃ l : List S26, l.length = len ∧ len ≤ cap ∧ Kd.C k26 w a len l :=
  open_row k26 Try.underlying22 (by kernel_rfl) (fun n cs y hy => by
    obtain ⟨p, rfl⟩ := trod_itemE hy
    exact ⟨p, k26_mk w p⟩) h
end
end Go.Proofs.Ytciiodbkhilkmaa.F

/- The row of ItemOrder: a list in its one form stands in order and has each dot once. -/
namespace Go.Proofs.Ytciiodbkhilkmaa.itemOrder
open Go.ChangeShapes Go.WideShapes Go.ChangeAt Go.RowKit Go.Proofs.Ytciiodbkhilkmaa.F
open Go.ChangeMaps (open_string shut_string)
set_option linter.unusedVariables false
theorem own : ownKnob Try.prog.godebug = none := by kernel_rfl
theorem laidOut : laidOutB Try.prog = true := by kernel_rfl
set_option maxRecDepth 100000 in
theorem lifted (os : Os) (started : os.Started) (H : Type) (enc : TypeId × Value → H) :
    ReturnsInHanded {} Try.checked os 8 .any (Rows.itemOrderSpec.pre6 enc Try.prog Try.f8 Rows.itemOrderRow.domain false) (Rows.itemOrderSpec.post enc Try.prog Try.f8 false true false false) := by
  refine returnsInHanded_of_change_sized (C := Try.checked) own started (by kernel_rfl) Try.func8
    (ChangeSpec.witness6 (enc := enc) (C := Try.checked) false ⟨#[], #[.slice none 0 0], []⟩ 8 (by kernel_rfl) (by kernel_rfl) (by kernel_rfl) (by kernel_rfl)) ?_
  intro W base args ds gs before hval0 hW hcnd hsz0 _
  have hval : ∀ (j : Nat) t v, Try.f8.params[j]? = some t → args[j]? = some v → Value.okWide Try.prog W .any base t v := hval0
  have hW' := hW
  obtain ⟨p, q, hA0, hV, rfl, hfz, hnd⟩ := hW
  have hA : DataW.TrodAll enc Try.prog W 0 (fun _ => true) true Try.f8.params.toList args.toList ds p := hA0
  rw [Try.params8] at hA hval
  obtain ⟨v0, vs0, d0, ds0, p0, q0, hargs, rfl, rfl, h0, r0⟩ := trodAll_cons hA
  obtain ⟨rfl, rfl, rfl⟩ := trodAll_nil r0
  obtain rfl : args = #[v0] := by cases args; simp_all
  obtain ⟨rfl, rfl⟩ := trodVars_none hV
  have k0 := h0
  have lt0 : ∀ x ∈ p0, x.block < W.heap.size := by obtain ⟨m, hm⟩ := k0; exact DataW.trod_lt m _ _ _ hm
  obtain ⟨a0, len0, cap0, rfl⟩ := okWide_slice Try.underlying22 (hval 0 22 v0 rfl rfl)
  obtain ⟨fuel0, hf0⟩ := h0
  obtain ⟨l0, rfl, c0, z0⟩ := open_items hf0
  clear hA0 hval0 hsz0
  obtain ⟨k, hk⟩ := (order_law l0).get
  refine (butterylaw09_ItemOrder.calls k a0 cap0 l0 true W z0 c0 hk).mono fun e W' ⟨he, bel⟩ => ?_
  subst he
  exact ⟨_, rfl, _, _, _, [], _, [], hW', trodAll_mk1 (shut_bool Try.underlying4 _), (trodAll_cons_mk (Below.trod laidOut (by kernel_rfl) (of_decide_eq_true (by kernel_rfl)) k0 bel lt0) trodAll_mk0), rfl, bel.frame _, fun h => by cases h⟩
theorem over : Rows.itemOrderRow.holds Try.pinned (OpenSpec.ofChange Rows.itemOrderSpec) :=
  OpenClaim.holds_of_wide 8 Try.f8 rfl rfl rfl rfl rfl rfl rfl ⟨rfl, rfl, rfl, rfl, rfl⟩ rfl rfl rfl rfl rfl (by kernel_rfl) Try.func8 (by kernel_rfl)
    (of_decide_eq_true (by kernel_rfl)) (by unfold Func.isWrapper; first | (rw [if_pos (by decide +kernel)]; kernel_rfl) | (rw [if_neg (by decide +kernel)]; exact ⟨rfl, rfl⟩))
    (fun os started H enc _ => lifted os started H enc)
theorem proved : Rows.ItemOrderSaid := over
#print axioms proved
end Go.Proofs.Ytciiodbkhilkmaa.itemOrder
namespace Go.Proofs.Ytciiodbkhilkmaa
/-- The row, under a short name, for the claim. -/
theorem itemOrder_holds : Rows.ItemOrderSaid := itemOrder.proved
end Go.Proofs.Ytciiodbkhilkmaa
