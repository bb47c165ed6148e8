/- ZoneAll, part 0: PSet, PEv, PZone, PMins, POnce, PZoneR, PZoneAll, RowS, RowZoneAll. -/
import Derived.Test.YtciiodbkhilkmaaGOnce
import Derived.Test.YtciiodbkhilkmaaGZoneA
import Derived.Test.YtciiodbkhilkmaaGPred
import Derived.Sort.Walk0
import Derived.Test.YtciiodbkhilkmaaGConcat
import Derived.Test.YtciiodbkhilkmaaGZoneW
import Derived.Test.YtciiodbkhilkmaaF10
import Derived.Test.YtciiodbkhilkmaaF6
import Derived.Test.YtciiodbkhilkmaaF5
import Derived.Test.YtciiodbkhilkmaaF19
import Derived.Test.YtciiodbkhilkmaaF20
import Derived.Test.YtciiodbkhilkmaaF30
import Derived.Test.YtciiodbkhilkmaaF29
import Derived.Test.YtciiodbkhilkmaaF21
import Derived.Test.YtciiodbkhilkmaaF9
import Derived.Test.YtciiodbkhilkmaaF34
import Derived.Test.YtciiodbkhilkmaaF33
import Derived.Test.YtciiodbkhilkmaaF36
import Derived.Test.YtciiodbkhilkmaaF35
import Derived.Test.YtciiodbkhilkmaaF37
import Derived.Test.YtciiodbkhilkmaaF38
import Derived.Test.YtciiodbkhilkmaaF24
import Derived.Test.YtciiodbkhilkmaaF39
import Derived.Test.YtciiodbkhilkmaaRows
import Derived.Deep.Slices
import Derived.ProofKit
import Derived.ChangeArms
import Derived.WalkKit
import Derived.OpenShut
import Derived.ShutString
import Derived.ChangeOld
import Derived.Below
import Derived.SizedLaws
import Derived.Carry
/- Lists of texts as sets: one rising list for each set; what begins with what; the texts of a list that begin with no other one. -/
namespace Go.Proofs.Ytciiodbkhilkmaa.F
set_option linter.unusedVariables false
set_option linter.unusedSimpArgs false
open Go.Lib
def Up (l : List ByteArray) : Prop := l.Pairwise fun a b => bl a < bl b
theorem bl_inj {a b : ByteArray} (h : bl a = bl b) : a = b := by rw [← mkB_bl a, h, mkB_bl]
theorem blt_of {x y : List UInt8} (h : x ≤ y) (hne : x ≠ y) : x < y := Decidable.byContradiction fun c => hne (List.le_antisymm h (List.not_lt.1 c))
theorem up_ext : ∀ {l m : List ByteArray}, Up l → Up m → (∀ x, x ∈ l ↔ x ∈ m) → l = m
  | [], [], _, _, _ => rfl
  | [], b :: m, _, _, h => absurd ((h b).2 (.head _)) (by simp)
  | a :: l, [], _, _, h => absurd ((h a).1 (.head _)) (by simp)
  | a :: l, b :: m, hl, hm, h => by
    obtain ⟨ha, hl'⟩ := List.pairwise_cons.1 hl
    obtain ⟨hb, hm'⟩ := List.pairwise_cons.1 hm
    have e : a = b := by
      rcases List.mem_cons.1 ((h a).1 (.head _)) with e | e
      · exact e
      rcases List.mem_cons.1 ((h b).2 (.head _)) with e' | e'
      · exact e'.symm
      exact absurd (List.lt_trans (hb _ e) (ha _ e')) (List.lt_irrefl _)
    subst e
    congr 1
    refine up_ext hl' hm' fun x => ⟨fun hx => ?_, fun hx => ?_⟩
    · rcases List.mem_cons.1 ((h x).1 (.tail _ hx)) with e | e
      · subst e
        exact absurd (ha _ hx) (List.lt_irrefl _)
      · exact e
    · rcases List.mem_cons.1 ((h x).2 (.tail _ hx)) with e | e
      · subst e
        exact absurd (hb _ hx) (List.lt_irrefl _)
      · exact e
theorem compact_up (d : Array (List UInt8)) (hs : ∀ i j, i < j → j < d.size → d[i]! ≤ d[j]!) : ∀ m, m ≤ d.size → (compactUpTo d m).Pairwise (· < ·) ∧ ∀ x, x ∈ compactUpTo d m ↔ ∃ j, j < m ∧ d[j]! = x
  | 0, _ => by simp [compactUpTo]
  | m + 1, hm => by
    obtain ⟨h1, h2⟩ := compact_up d hs m (by omega)
    rw [compactUpTo_succ]
    have hle : ∀ x ∈ compactUpTo d m, 0 < m ∧ x ≤ d[m - 1]! := fun x hx => by
      obtain ⟨j, hj, rfl⟩ := (h2 x).1 hx
      refine ⟨by omega, ?_⟩
      by_cases e : j = m - 1
      · rw [e]; exact List.le_refl _
      · exact hs _ _ (by omega) (by omega)
    by_cases hk : keeps d m = true
    · rw [if_pos hk]
      refine ⟨List.pairwise_append.2 ⟨h1, by simp, fun x hx y hy => ?_⟩, fun x => ?_⟩
      · obtain rfl := List.mem_singleton.1 hy
        obtain ⟨h0, hx'⟩ := hle x hx
        have hne : d[m - 1]! ≠ d[m]! := fun e => by
          rw [keeps_neg h0 e.symm] at hk
          exact absurd hk (by simp)
        exact Std.lt_of_le_of_lt hx' (blt_of (hs _ _ (by omega) (by omega)) hne)
      · rw [List.mem_append, h2, List.mem_singleton]
        constructor
        · rintro (⟨j, hj, e⟩ | rfl)
          · exact ⟨j, by omega, e⟩
          · exact ⟨m, by omega, rfl⟩
        · rintro ⟨j, hj, e⟩
          by_cases h : j = m
          · subst h; exact .inr e.symm
          · exact .inl ⟨j, by omega, e⟩
    · rw [if_neg hk, List.append_nil]
      refine ⟨h1, fun x => ?_⟩
      rw [h2]
      constructor
      · rintro ⟨j, hj, e⟩
        exact ⟨j, by omega, e⟩
      · rintro ⟨j, hj, e⟩
        by_cases h : j = m
        · subst h
          have h0 : 0 < j := by
            rcases Nat.eq_zero_or_pos j with e | e
            · subst e; exact absurd (by simp [keeps]) hk
            · exact e
          refine ⟨j - 1, by omega, ?_⟩
          rw [← e]
          exact Decidable.byContradiction fun c => hk (keeps_pos (fun e => c e.symm))
        · exact ⟨j, by omega, e⟩
theorem sorted_get (l : List (List UInt8)) : ∀ i j, i < j → j < ((l.mergeSort fun x y => decide (x ≤ y)).toArray).size → ((l.mergeSort fun x y => decide (x ≤ y)).toArray)[i]! ≤ ((l.mergeSort fun x y => decide (x ≤ y)).toArray)[j]! := by
  intro i j hij hj
  have h := List.pairwise_mergeSort (le := fun x y : List UInt8 => decide (x ≤ y)) (fun a b c h1 h2 => by
    simp only [decide_eq_true_eq] at *
    exact List.le_trans h1 h2) (fun a b => by
    simp only [Bool.or_eq_true, decide_eq_true_eq]
    exact List.le_total a b) l
  have h3 := List.pairwise_iff_getElem.1 h i j (by simp at hj ⊢; omega) (by simpa using hj) hij
  simp only [decide_eq_true_eq] at h3
  have hi : i < ((l.mergeSort fun x y => decide (x ≤ y)).toArray).size := by omega
  rw [getElem!_pos _ i hi, getElem!_pos _ j hj]
  simpa using h3
theorem onceL_up (l : List ByteArray) : Up (onceL l) := by
  unfold Up onceL
  rw [List.pairwise_map]
  exact (compact_up _ (sorted_get _) _ (by simp)).1
theorem onceL_mem (l : List ByteArray) (x : ByteArray) : x ∈ onceL l ↔ x ∈ l := by
  unfold onceL
  rw [List.mem_map]
  constructor
  · rintro ⟨a, ha, rfl⟩
    obtain ⟨j, hj, rfl⟩ := ((compact_up _ (sorted_get _) _ (by simp)).2 a).1 ha
    have hm : ((l.map bl).mergeSort fun x y => decide (x ≤ y)).toArray[j]! ∈ l.map bl := by
      rw [getElem!_pos _ j (by simpa using hj)]
      exact (List.mergeSort_perm _ _).mem_iff.1 (List.getElem_mem _)
    obtain ⟨y, hy, e⟩ := List.mem_map.1 hm
    rw [← e, mkB_bl]
    exact hy
  · intro hx
    refine ⟨bl x, ?_, mkB_bl x⟩
    refine ((compact_up _ (sorted_get _) _ (by simp)).2 _).2 ?_
    have hm : bl x ∈ (l.map bl).mergeSort fun x y => decide (x ≤ y) := (List.mergeSort_perm _ _).mem_iff.2 (List.mem_map_of_mem hx)
    obtain ⟨j, hj, e⟩ := List.getElem_of_mem hm
    exact ⟨j, hj, by rw [getElem!_pos _ j (by simpa using hj)]; simpa using e⟩
theorem onceL_eq {l m : List ByteArray} (hm : Up m) (h : ∀ x, x ∈ l ↔ x ∈ m) : onceL l = m := up_ext (onceL_up l) hm fun x => (onceL_mem l x).trans (h x)
theorem onceL_congr {l m : List ByteArray} (h : ∀ x, x ∈ l ↔ x ∈ m) : onceL l = onceL m := onceL_eq (onceL_up m) fun x => (h x).trans (onceL_mem m x).symm
theorem onceL_self {l : List ByteArray} (h : Up l) : onceL l = l := onceL_eq h fun _ => Iff.rfl
theorem Up.filter {l : List ByteArray} (h : Up l) (p : ByteArray → Bool) : Up (l.filter p) := List.Pairwise.filter _ h
theorem onceL_len (l : List ByteArray) : (onceL l).length ≤ l.length := by
  unfold onceL
  rw [List.length_map]
  refine Nat.le_trans (compact_le _) ?_
  simp

/-! ### What begins with what -/
theorem hasP_iff {p s : ByteArray} : hasP p s = true ↔ bl p <+: bl s := List.isPrefixOf_iff_prefix
theorem hasP_refl (p : ByteArray) : hasP p p = true := hasP_iff.2 (List.prefix_refl _)
theorem hasP_trans {p q s : ByteArray} (h : hasP p q = true) (h' : hasP q s = true) : hasP p s = true := hasP_iff.2 ((hasP_iff.1 h).trans (hasP_iff.1 h'))
theorem hasP_anti {p q : ByteArray} (h : hasP p q = true) (h' : hasP q p = true) : p = q :=
  bl_inj ((hasP_iff.1 h).eq_of_length (Nat.le_antisymm (hasP_iff.1 h).length_le (hasP_iff.1 h').length_le))
theorem prefix_le : ∀ {p s : List UInt8}, p <+: s → p ≤ s
  | [], s, _ => List.nil_le _
  | a :: p, s, h => by
    obtain ⟨r, rfl⟩ := h
    rw [List.cons_append, List.cons_le_cons_iff]
    exact .inr ⟨rfl, prefix_le ⟨r, rfl⟩⟩
theorem prefix_between : ∀ {p q s : List UInt8}, p <+: s → p ≤ q → q ≤ s → p <+: q
  | [], _, _, _, _, _ => List.nil_prefix
  | a :: p, [], _, _, h, _ => absurd h (by simp)
  | a :: p, b :: q, [], h, _, _ => absurd h (by simp)
  | a :: p, b :: q, c :: s, h, h1, h2 => by
    obtain ⟨rfl, h3⟩ := List.cons_prefix_cons.1 h
    rw [List.cons_le_cons_iff] at h1 h2
    rcases h1 with h1 | ⟨rfl, h1⟩
    · rcases h2 with h2 | ⟨rfl, h2⟩
      · exact absurd (Std.lt_trans h1 h2) (Std.lt_irrefl)
      · exact absurd h1 (Std.lt_irrefl)
    · rcases h2 with h2 | ⟨_, h2⟩
      · exact absurd h2 (Std.lt_irrefl)
      · exact List.cons_prefix_cons.2 ⟨rfl, prefix_between h3 h1 h2⟩
/-- Does a text of a list begin with no other one? -/
def minB (l : List ByteArray) (p : ByteArray) : Bool := !l.any fun q => bl q != bl p && hasP q p
theorem minB_iff {l : List ByteArray} {p : ByteArray} : minB l p = true ↔ ∀ q ∈ l, hasP q p = true → q = p := by
  unfold minB
  simp only [Bool.not_eq_true', List.any_eq_false, Bool.and_eq_true, bne_iff_ne, not_and]
  exact ⟨fun h q hq hp => Decidable.byContradiction fun c => h q hq (fun e => c (bl_inj e)) hp, fun h q hq c hp => c (congrArg bl (h q hq hp))⟩
theorem minB_congr {l m : List ByteArray} (h : ∀ x, x ∈ l ↔ x ∈ m) (p : ByteArray) : minB l p = minB m p := by
  rw [Bool.eq_iff_iff, minB_iff, minB_iff]
  exact ⟨fun g q hq => g q ((h q).2 hq), fun g q hq => g q ((h q).1 hq)⟩
theorem min_of (l : List ByteArray) : ∀ (n : Nat) (q : ByteArray), (bl q).length ≤ n → q ∈ l → ∃ p ∈ l, minB l p = true ∧ hasP p q = true
  | n, q, hn, hq => by
    by_cases h : minB l q = true
    · exact ⟨q, hq, h, hasP_refl q⟩
    have : ∃ p ∈ l, hasP p q = true ∧ p ≠ q := Decidable.byContradiction fun c => h (minB_iff.2 fun p hp hpq => Decidable.byContradiction fun e => c ⟨p, hp, hpq, e⟩)
    obtain ⟨p, hp, hpq, e⟩ := this
    have hlt : (bl p).length < (bl q).length := by
      rcases Nat.lt_or_ge (bl p).length (bl q).length with h | h
      · exact h
      · exact absurd (bl_inj ((hasP_iff.1 hpq).eq_of_length (Nat.le_antisymm (hasP_iff.1 hpq).length_le h))) e
    cases n with
    | zero => omega
    | succ n =>
      obtain ⟨r, hr, h1, h2⟩ := min_of l n p (by omega) hp
      exact ⟨r, hr, h1, hasP_trans h2 hpq⟩
theorem covers_iff {l : List ByteArray} {k : ByteArray} : coversL l k = true ↔ ∃ p ∈ l, hasP p k = true := by unfold coversL; exact List.any_eq_true
theorem covers_min (l : List ByteArray) (k : ByteArray) : coversL (l.filter (minB l)) k = coversL l k := by
  rw [Bool.eq_iff_iff, covers_iff, covers_iff]
  constructor
  · rintro ⟨p, hp, h⟩
    exact ⟨p, (List.mem_filter.1 hp).1, h⟩
  · rintro ⟨p, hp, h⟩
    obtain ⟨r, hr, h1, h2⟩ := min_of l _ p (Nat.le_refl _) hp
    exact ⟨r, List.mem_filter.2 ⟨hr, h1⟩, hasP_trans h2 h⟩
theorem covers_congr {l m : List ByteArray} (h : ∀ x, x ∈ l ↔ x ∈ m) (k : ByteArray) : coversL l k = coversL m k := by
  rw [Bool.eq_iff_iff, covers_iff, covers_iff]
  exact ⟨fun ⟨p, hp, g⟩ => ⟨p, (h p).1 hp, g⟩, fun ⟨p, hp, g⟩ => ⟨p, (h p).2 hp, g⟩⟩
/-- One after the other of a rising list, each that doesn't begin with the last one kept. -/
def keepZ : List ByteArray → List ByteArray → List ByteArray
  | out, [] => out
  | out, p :: r => if out ≠ [] ∧ hasP (out.getLastD ByteArray.empty) p = true then keepZ out r else keepZ (out ++ [p]) r
theorem keepZ_min (s : List ByteArray) (hs : Up s) : ∀ (r d : List ByteArray), d ++ r = s → keepZ (d.filter (minB s)) r = s.filter (minB s)
  | [], d, e => by rw [List.append_nil] at e; rw [e]; rfl
  | p :: r, d, e => by
    have hp : p ∈ s := by rw [← e]; simp
    have hd : ∀ q ∈ d, bl q < bl p := fun q hq => by
      rw [← e] at hs
      exact (List.pairwise_append.1 hs).2.2 q hq p (.head _)
    have hr : ∀ q ∈ r, bl p < bl q := fun q hq => by
      rw [← e] at hs
      exact (List.pairwise_cons.1 (List.pairwise_append.1 hs).2.1).1 q hq
    have ih := keepZ_min s hs r (d ++ [p]) (by rw [List.append_assoc]; exact e)
    rw [List.filter_append] at ih
    have key : (d.filter (minB s) ≠ [] ∧ hasP ((d.filter (minB s)).getLastD ByteArray.empty) p = true) ↔ ¬ minB s p = true := by
      constructor
      · rintro ⟨hn, hl⟩ hm
        have hmem : (d.filter (minB s)).getLastD ByteArray.empty ∈ d.filter (minB s) := by
          rw [List.getLastD_eq_getLast?, List.getLast?_eq_some_getLast hn]
          exact List.getLast_mem hn
        have hmd := (List.mem_filter.1 hmem).1
        have := minB_iff.1 hm _ (by have h := List.mem_append_left (p :: r) hmd; rw [e] at h; exact h) hl
        have h2 := hd _ hmd
        rw [this] at h2
        exact List.lt_irrefl _ h2
      · intro hm
        obtain ⟨q, hq, hqm, hqp⟩ := min_of s _ p (Nat.le_refl _) hp
        have hne : q ≠ p := fun e => hm (e ▸ hqm)
        have hqd : q ∈ d := by
          rw [← e, List.mem_append, List.mem_cons] at hq
          rcases hq with hq | rfl | hq
          · exact hq
          · exact absurd rfl hne
          · exact absurd (prefix_le (hasP_iff.1 hqp)) (List.not_le.2 (hr q hq))
        have hqf : q ∈ d.filter (minB s) := List.mem_filter.2 ⟨hqd, hqm⟩
        have hn : d.filter (minB s) ≠ [] := List.ne_nil_of_mem hqf
        refine ⟨hn, ?_⟩
        rw [List.getLastD_eq_getLast?, List.getLast?_eq_some_getLast hn]
        show hasP ((d.filter (minB s)).getLast hn) p = true
        have hmem := List.getLast_mem hn
        obtain ⟨hmd, hmm⟩ := List.mem_filter.1 hmem
        have hle : bl q ≤ bl ((d.filter (minB s)).getLast hn) := by
          have hup : Up (d.filter (minB s)) := by
            rw [← e] at hs
            exact Up.filter (List.pairwise_append.1 hs).1 _
          have ha := (List.dropLast_concat_getLast hn).symm
          generalize (d.filter (minB s)).getLast hn = b at ha
          rw [ha] at hup hqf
          rcases List.mem_append.1 hqf with h | h
          · exact List.le_of_lt ((List.pairwise_append.1 hup).2.2 q h b (.head _))
          · rw [List.mem_singleton.1 h]; exact List.le_refl _
        have hb := prefix_between (hasP_iff.1 hqp) hle (List.le_of_lt (hd _ hmd))
        have := minB_iff.1 hmm q hq (hasP_iff.2 hb)
        rw [← this]
        exact hqp
    unfold keepZ
    by_cases hm : minB s p = true
    · rw [if_neg (fun c => key.1 c hm)]
      simpa [hm] using ih
    · rw [if_pos (key.2 hm)]
      simpa [hm] using ih
theorem keepZ_all (s : List ByteArray) (hs : Up s) : keepZ [] s = s.filter (minB s) := keepZ_min s hs s [] rfl
end Go.Proofs.Ytciiodbkhilkmaa.F

/- What a function with fuel answers in the end; texts and their bytes at an index. -/
namespace Go.Proofs.Ytciiodbkhilkmaa.F
set_option linter.unusedVariables false
set_option linter.unusedSimpArgs false
open Go.RowKit Go.Proofs.YtciiodbkhilkmaaW.PrintWords Go.Proofs.YtciiodbkhilkmaaW.PrintLast Go.Proofs.YtciiodbkhilkmaaW.PrintMore
/-- With enough fuel the answer is v. -/
def Ev {α : Type} (f : Nat → Option α) (v : α) : Prop := ∃ n, ∀ k, n ≤ k → f k = some v
theorem Ev.const {α : Type} (v : α) : Ev (fun _ => some v) v := ⟨0, fun _ _ => rfl⟩
theorem Ev.of {α : Type} {o : Option α} {v : α} (h : o = some v) : Ev (fun _ => o) v := ⟨0, fun _ _ => h⟩
theorem Ev.bind {α β : Type} {f : Nat → Option α} {g : Nat → α → Option β} {v : α} {u : β} (h1 : Ev f v) (h2 : Ev (fun k => g k v) u) : Ev (fun k => (f k).bind (g k)) u := by
  obtain ⟨n, hn⟩ := h1
  obtain ⟨m, hm⟩ := h2
  exact ⟨max n m, fun k hk => by show (f k).bind (g k) = _; rw [hn k (by omega)]; exact hm k (by omega)⟩
theorem Ev.bindc {α β : Type} {o : Option α} {g : Nat → α → Option β} {v : α} {u : β} (h1 : o = some v) (h2 : Ev (fun k => g k v) u) : Ev (fun k => o.bind (g k)) u := Ev.bind (Ev.of h1) h2
theorem Ev.succ {α : Type} {f : Nat → Option α} {v : α} (h : Ev (fun k => f (k + 1)) v) : Ev f v := by
  obtain ⟨n, hn⟩ := h
  refine ⟨n + 1, fun k hk => ?_⟩
  obtain ⟨m, rfl⟩ : ∃ m, k = m + 1 := ⟨k - 1, by omega⟩
  exact hn m (by omega)
theorem Ev.get {α : Type} {f : Nat → Option α} {v : α} (h : Ev f v) : ∃ k, f k = some v := by
  obtain ⟨n, hn⟩ := h
  exact ⟨n, hn n (Nat.le_refl _)⟩
theorem Ev.pos {α : Type} {c : Prop} [Decidable c] {f g : Nat → Option α} {v : α} (hc : c) (h : Ev f v) : Ev (fun k => if c then f k else g k) v := by
  obtain ⟨n, hn⟩ := h
  exact ⟨n, fun k hk => by show (if c then f k else g k) = _; rw [if_pos hc]; exact hn k hk⟩
theorem Ev.neg {α : Type} {c : Prop} [Decidable c] {f g : Nat → Option α} {v : α} (hc : ¬ c) (h : Ev g v) : Ev (fun k => if c then f k else g k) v := by
  obtain ⟨n, hn⟩ := h
  exact ⟨n, fun k hk => by show (if c then f k else g k) = _; rw [if_neg hc]; exact hn k hk⟩
theorem Ev.ite {α : Type} {c : Prop} [Decidable c] {f g : Nat → Option α} {v u : α} (h1 : c → Ev f v) (h2 : ¬ c → Ev g u) : Ev (fun k => if c then f k else g k) (if c then v else u) := by
  by_cases hc : c
  · rw [if_pos hc]; exact Ev.pos hc (h1 hc)
  · rw [if_neg hc]; exact Ev.neg hc (h2 hc)
theorem Ev.eq {α : Type} {f : Nat → Option α} {v u : α} (h : Ev f v) (e : v = u) : Ev f u := e ▸ h
theorem wrap_add (i : Nat) (h : i < 4611686018427387904) : wrap64 ((i : Int) + 1) = ((i + 1 : Nat) : Int) := by
  unfold wrap64
  omega
theorem wrap_sub (i : Nat) (h : i < 4611686018427387904) : wrap64 (((i + 1 : Nat) : Int) - 1) = (i : Int) := by
  unfold wrap64
  omega
theorem toList_bl (x : ByteArray) : x.toList = bl x := Lib.toList_data x
theorem bl_len (x : ByteArray) : (bl x).length = x.size := (Lib.size_eq x).symm
theorem bt_get (x : ByteArray) (i : Nat) (h : i < (bl x).length) : bt x (i : Int) = (((bl x)[i].toNat : Nat) : Int) := by
  unfold bt
  rw [bl_len] at h
  rw [dif_pos (by simpa using h)]
  rfl
theorem less_bl (x y : ByteArray) : (Op.bytesLess x.toList y.toList = true) ↔ bl x < bl y := by rw [Go.Proofs.bytesLess_eq, toList_bl, toList_bl]; simp
end Go.Proofs.Ytciiodbkhilkmaa.F

/- Chapter 08: what zone's functions and the reference's answer, in the end. -/
namespace Go.Proofs.Ytciiodbkhilkmaa.F
set_option linter.unusedVariables false
set_option linter.unusedSimpArgs false
open Go.RowKit Go.Proofs.YtciiodbkhilkmaaW.PrintWords Go.Proofs.YtciiodbkhilkmaaW.PrintLast Go.Proofs.YtciiodbkhilkmaaW.PrintMore
def shortB (l : List ByteArray) : Bool := decide (l.length ≤ 60) && l.all fun x => decide (x.size ≤ 200)
theorem short_l0 (l : List ByteArray) (hl : l.length ≤ 60) : ∀ (n i : Nat), l.length = i + n → Ev (fun k => butteryref08_Short.l0 k l (i : Int)) ((l.drop i).all fun x => decide (x.size ≤ 200))
  | 0, i, h => Ev.succ (by
    simp only [butteryref08_Short.l0]
    exact Ev.neg (by omega) (Ev.eq (Ev.const _) (by rw [List.drop_of_length_le (by omega)]; rfl)))
  | n + 1, i, h => Ev.succ (by
    simp only [butteryref08_Short.l0]
    have hi : i < l.length := by omega
    refine Ev.pos (by omega) (Ev.pos (by omega) ?_)
    rw [rdOf_get _ _ _ hi, wrap_add i (by omega), List.drop_eq_getElem_cons hi, List.all_cons]
    by_cases c : l[i].size ≤ 200
    · exact Ev.neg (by omega) (Ev.eq (short_l0 l hl n (i + 1) (by omega)) (by simp [c]))
    · exact Ev.pos (by omega) (Ev.eq (Ev.const _) (by simp [c])))
theorem short_ev (l : List ByteArray) : Ev (fun k => butteryref08_Short.f k l) (shortB l) := by
  unfold butteryref08_Short.f shortB
  by_cases c : l.length ≤ 60
  · exact Ev.neg (by omega) (Ev.eq (short_l0 l c l.length 0 (by omega)) (by simp [c]))
  · exact Ev.pos (by omega) (Ev.eq (Ev.const _) (by simp [c]))
theorem short_iff {l : List ByteArray} : shortB l = true ↔ l.length ≤ 60 ∧ ∀ x ∈ l, x.size ≤ 200 := by simp [shortB]
theorem same_l0 (l m : List ByteArray) (hl : l.length < 1000000) (hm : l.length = m.length) : ∀ (n i : Nat), l.length = i + n → Ev (fun k => butteryref08_Same.l0 k l m (i : Int)) (decide (l.drop i = m.drop i))
  | 0, i, h => Ev.succ (by
    simp only [butteryref08_Same.l0]
    exact Ev.neg (by omega) (Ev.eq (Ev.const _) (by rw [List.drop_of_length_le (by omega), List.drop_of_length_le (by omega)]; simp)))
  | n + 1, i, h => Ev.succ (by
    simp only [butteryref08_Same.l0]
    have hi : i < l.length := by omega
    have hi2 : i < m.length := by omega
    refine Ev.pos (by omega) (Ev.pos (by omega) (Ev.pos (by omega) ?_))
    rw [rdOf_get _ _ _ hi, rdOf_get _ _ _ hi2, wrap_add i (by omega), List.drop_eq_getElem_cons hi, List.drop_eq_getElem_cons hi2, toList_bl, toList_bl]
    by_cases c : bl l[i] = bl m[i]
    · exact Ev.pos c (Ev.eq (same_l0 l m hl hm n (i + 1) (by omega)) (by rw [decide_eq_decide, bl_inj c]; exact ⟨congrArg _, fun e => (List.cons.inj e).2⟩))
    · exact Ev.neg c (Ev.eq (Ev.const _) (by rw [eq_comm, decide_eq_false_iff_not]; exact fun e => c (congrArg bl (List.cons.inj e).1))))
theorem same_ev (l m : List ByteArray) (hl : l.length < 1000000) : Ev (fun k => butteryref08_Same.f k l m) (decide (l = m)) := by
  unfold butteryref08_Same.f
  by_cases c : l.length = m.length
  · exact Ev.pos (by omega) (Ev.eq (same_l0 l m hl c l.length 0 (by omega)) (by simp))
  · exact Ev.neg (by omega) (Ev.eq (Ev.const _) (by simp [show l ≠ m from fun e => c (congrArg _ e)]))
theorem equal_l0 (l m : List ByteArray) (hl : l.length < 1000000) (hm : l.length = m.length) : ∀ (n i : Nat), l.length = i + n → Ev (fun k => slices_Equal_string_string.l0 k l m (l.length : Int) (i : Int)) (decide (l.drop i = m.drop i))
  | 0, i, h => Ev.succ (by
    simp only [slices_Equal_string_string.l0]
    exact Ev.neg (by omega) (Ev.eq (Ev.const _) (by rw [List.drop_of_length_le (by omega), List.drop_of_length_le (by omega)]; simp)))
  | n + 1, i, h => Ev.succ (by
    simp only [slices_Equal_string_string.l0]
    have hi : i < l.length := by omega
    have hi2 : i < m.length := by omega
    refine Ev.pos (by omega) (Ev.pos (by omega) (Ev.pos (by omega) (Ev.pos (by omega) ?_)))
    rw [rdOf_get _ _ _ hi, rdOf_get _ _ _ hi2, wrap_add i (by omega), List.drop_eq_getElem_cons hi, List.drop_eq_getElem_cons hi2, toList_bl, toList_bl]
    by_cases c : bl l[i] = bl m[i]
    · exact Ev.pos c (Ev.eq (equal_l0 l m hl hm n (i + 1) (by omega)) (by rw [decide_eq_decide, bl_inj c]; exact ⟨congrArg _, fun e => (List.cons.inj e).2⟩))
    · exact Ev.neg c (Ev.eq (Ev.const _) (by rw [eq_comm, decide_eq_false_iff_not]; exact fun e => c (congrArg bl (List.cons.inj e).1))))
theorem equal_ev (l m : List ByteArray) (hl : l.length < 1000000) : Ev (fun k => slices_Equal_string_string.f k l m) (decide (l = m)) := by
  unfold slices_Equal_string_string.f
  by_cases c : l.length = m.length
  · exact Ev.pos (by omega) (Ev.eq (equal_l0 l m hl c l.length 0 (by omega)) (by simp))
  · exact Ev.neg (by omega) (Ev.eq (Ev.const _) (by simp [show l ≠ m from fun e => c (congrArg _ e)]))

/-! ### Texts that may stand in a zone -/
def pcI (c : Nat) : Bool := decide (97 ≤ c ∧ c ≤ 122) || decide (48 ≤ c ∧ c ≤ 57) || c == 47
def pfx (p : ByteArray) : Bool := decide (p.size ≤ 16) && (bl p).all fun c => pcI c.toNat
theorem prefix_l0 (p : ByteArray) (hp : p.size ≤ 16) : ∀ (n i : Nat), p.size = i + n → Ev (fun k => zone_prefix.l0 k p (p.size : Int) (i : Int)) (((bl p).drop i).all fun c => pcI c.toNat)
  | 0, i, h => Ev.succ (by
    have := bl_len p
    simp only [zone_prefix.l0]
    exact Ev.neg (by omega) (Ev.eq (Ev.const _) (by rw [List.drop_of_length_le (by omega)]; rfl)))
  | n + 1, i, h => Ev.succ (by
    simp only [zone_prefix.l0]
    have hi : i < (bl p).length := by rw [bl_len]; omega
    refine Ev.pos (by omega) (Ev.pos (by omega) (Ev.pos (by omega) ?_))
    rw [bt_get p i hi, wrap_add i (by omega), List.drop_eq_getElem_cons hi, List.all_cons]
    have ih := prefix_l0 p hp n (i + 1) (by omega)
    generalize (bl p)[i].toNat = c at ih ⊢
    have yes : pcI c = true → Ev (fun k => zone_prefix.l0 k p (p.size : Int) ((i + 1 : Nat) : Int)) (pcI c && ((bl p).drop (i + 1)).all fun c => pcI c.toNat) := fun h => Ev.eq ih (by rw [h, Bool.true_and])
    have no : pcI c = false → Ev (fun _ => some false) (pcI c && ((bl p).drop (i + 1)).all fun c => pcI c.toNat) := fun h => Ev.eq (Ev.const _) (by rw [h, Bool.false_and])
    by_cases c1 : c < 97
    · refine Ev.pos (by omega) ?_
      by_cases c2 : c < 48
      · refine Ev.pos (by omega) ?_
        by_cases c3 : c = 47
        · exact Ev.pos (by omega) (yes (by simp [pcI, c3]))
        · exact Ev.neg (by omega) (no (by simp [pcI, c3]; omega))
      · refine Ev.neg (by omega) ?_
        by_cases c3 : c > 57
        · refine Ev.pos (by omega) (Ev.neg (by omega) (no (by simp [pcI]; omega)))
        · exact Ev.neg (by omega) (yes (by simp [pcI]; omega))
    · refine Ev.neg (by omega) ?_
      by_cases c2 : c > 122
      · exact Ev.pos (by omega) (Ev.neg (by omega) (Ev.pos (by omega) (Ev.neg (by omega) (no (by simp [pcI]; omega)))))
      · exact Ev.neg (by omega) (yes (by simp [pcI]; omega)))
theorem prefix_ev (p : ByteArray) : Ev (fun k => zone_prefix.f k p) (pfx p) := by
  unfold zone_prefix.f pfx
  by_cases c : p.size ≤ 16
  · exact Ev.neg (by omega) (Ev.eq (prefix_l0 p c p.size 0 (by omega)) (by simp [c]))
  · exact Ev.pos (by omega) (Ev.eq (Ev.const _) (by simp [c]))

/-! ### The one form -/
def walkZ : List ByteArray → List ByteArray → List ByteArray × Int
  | out, [] => if out.length > 8 then ([], 4) else (out, 0)
  | out, p :: r => if pfx p = true then (if out ≠ [] ∧ hasP (out.getLastD ByteArray.empty) p = true then walkZ out r else walkZ (out ++ [p]) r) else ([], 2)
def endZ (o : List ByteArray) : List ByteArray × Int := if o.length > 8 then ([], 4) else (o, 0)
theorem walkZ_eq : ∀ (r out : List ByteArray), walkZ out r = if r.all pfx = true then endZ (keepZ out r) else ([], 2)
  | [], out => rfl
  | p :: r, out => by
    unfold walkZ keepZ
    rw [List.all_cons]
    by_cases c : pfx p = true
    · rw [if_pos c, c, Bool.true_and]
      split
      · exact walkZ_eq r out
      · exact walkZ_eq r _
    · rw [if_neg c, if_neg (by simp [c])]
theorem last_rd (l : List ByteArray) (h : l ≠ []) (hl : l.length < 1000000) : rdOf ByteArray.empty l (wrap64 ((l.length : Int) - 1)) = l.getLastD ByteArray.empty ∧ 0 ≤ wrap64 ((l.length : Int) - 1) ∧ wrap64 ((l.length : Int) - 1) < (l.length : Int) := by
  obtain ⟨n, hn⟩ : ∃ n, l.length = n + 1 := ⟨l.length - 1, by have := List.length_pos_iff.2 h; omega⟩
  have e : l.getLastD ByteArray.empty = l[n] := by
    rw [List.getLastD_eq_getLast?, List.getLast?_eq_getElem?, show l.length - 1 = n by omega, List.getElem?_eq_getElem (by omega)]
    rfl
  rw [hn, wrap_sub n (by omega), rdOf_get _ _ n (by omega), e]
  exact ⟨rfl, by omega, by omega⟩
theorem norm_l0 (s : List ByteArray) (hs : s.length < 100000) : ∀ (n i : Nat) (out : List ByteArray), s.length = i + n → out.length ≤ i → Ev (fun k => zone_Norm.l0 k out s (s.length : Int) (i : Int)) (walkZ out (s.drop i))
  | 0, i, out, h, ho => Ev.succ (by
    simp only [zone_Norm.l0]
    rw [List.drop_of_length_le (by omega)]
    refine Ev.neg (by omega) ?_
    unfold walkZ
    by_cases c : out.length > 8
    · rw [if_pos c]; exact Ev.pos (by omega) (Ev.const _)
    · rw [if_neg c]; exact Ev.neg (by omega) (Ev.const _))
  | n + 1, i, out, h, ho => Ev.succ (by
    simp only [zone_Norm.l0]
    have hi : i < s.length := by omega
    refine Ev.pos (by omega) (Ev.pos (by omega) (Ev.pos (by omega) ?_))
    rw [rdOf_get _ _ _ hi, wrap_add i (by omega), List.drop_eq_getElem_cons hi]
    refine Ev.bind (prefix_ev _) ?_
    unfold walkZ
    have i1 := norm_l0 s hs n (i + 1) (out ++ [s[i]]) (by omega) (by simp; omega)
    have i2 := norm_l0 s hs n (i + 1) out (by omega) (by omega)
    by_cases c : pfx s[i] = true
    · rw [if_pos c]
      refine Ev.pos c ?_
      by_cases e : out = []
      · rw [if_neg (fun h => h.1 e)]
        exact Ev.pos (by simp [e]) (Ev.pos (by omega) i1)
      · have hlen := List.length_pos_iff.2 e
        obtain ⟨q1, q2, q3⟩ := last_rd out e (by omega)
        refine Ev.neg (by omega) (Ev.pos q2 (Ev.pos q3 ?_))
        rw [q1]
        refine Ev.bindc (v := hasP (out.getLastD ByteArray.empty) s[i]) rfl ?_
        by_cases c2 : hasP (out.getLastD ByteArray.empty) s[i] = true
        · rw [if_pos ⟨e, c2⟩]
          exact Ev.pos c2 i2
        · rw [if_neg (fun h => c2 h.2)]
          exact Ev.neg c2 (Ev.pos (by omega) i1)
    · rw [if_neg c]
      exact Ev.neg c (Ev.const _))
def normZ (l : List ByteArray) : List ByteArray × Int := if l.all pfx = true then endZ ((onceL l).filter (minB l)) else ([], 2)
theorem all_congr {l m : List ByteArray} (h : ∀ x, x ∈ l ↔ x ∈ m) (p : ByteArray → Bool) : l.all p = m.all p := by
  rw [Bool.eq_iff_iff, List.all_eq_true, List.all_eq_true]
  exact ⟨fun g x hx => g x ((h x).2 hx), fun g x hx => g x ((h x).1 hx)⟩
theorem norm_ev (l : List ByteArray) (hl : l.length < 10000) : Ev (fun k => zone_Norm.f k l) (normZ l) := by
  unfold zone_Norm.f
  have ho := onceL_len l
  refine Ev.bindc (v := onceL l) (by unfold zone_once.f; rw [if_pos (by unfold lim; omega)]) ?_
  refine Ev.eq (norm_l0 (onceL l) (by omega) (onceL l).length 0 [] (by omega) (by simp)) ?_
  rw [List.drop_zero, walkZ_eq, keepZ_all _ (onceL_up l), all_congr (onceL_mem l), show minB (onceL l) = minB l from funext (minB_congr (onceL_mem l))]
  rfl
def rightB (l : List ByteArray) : Bool := decide ((normZ l).2 = 0 ∧ (normZ l).1 = l)
theorem endZ_len (o : List ByteArray) : (endZ o).1.length ≤ 8 := by unfold endZ; split <;> simp; omega
theorem normZ_len (l : List ByteArray) : (normZ l).1.length ≤ 8 := by unfold normZ; split; exact endZ_len _; simp
theorem right_ev (l : List ByteArray) (hl : l.length < 10000) : Ev (fun k => zone_Right.f k l) (rightB l) := by
  unfold zone_Right.f rightB
  refine Ev.bind (norm_ev l hl) ?_
  by_cases c : (normZ l).2 = 0
  · refine Ev.pos c (Ev.bind (equal_ev _ l (by have := normZ_len l; omega)) (Ev.eq (Ev.const _) (by simp [c])))
  · exact Ev.neg c (Ev.eq (Ev.const _) (by simp [c]))
theorem union_ev (a b : List ByteArray) (ha : a.length < 5000) (hb : b.length < 5000) : Ev (fun k => zone_Union.f k a b) (normZ (a ++ b)) := by
  unfold zone_Union.f
  refine Ev.bindc (v := a ++ b) (by unfold slices_Concat_string_string.f; rw [show ([a, b] : List (List ByteArray)).flatten = a ++ b by simp, if_pos (by simp [lim]; omega)]) ?_
  refine Ev.bind (norm_ev _ (by simp; omega)) (Ev.const _)

/-! ### What both have -/
def both (p q : ByteArray) : List ByteArray := if hasP q p = true then [p] else if hasP p q = true then [q] else []
theorem both_len (p q : ByteArray) : (both p q).length ≤ 1 := by unfold both; split; simp; split <;> simp
def interL (a b : List ByteArray) : List ByteArray := onceL (a.flatMap fun p => b.flatMap (both p))
theorem inter_l1 (a b : List ByteArray) (hb : b.length < 10000) (p : ByteArray) (i : Nat) (hi : i < 10000) {v : List ByteArray} : ∀ (n j : Nat) (acc : List ByteArray), b.length = j + n → acc.length + n < 1000000000 →
    Ev (fun k => zone_Inter.l0 k b (acc ++ (b.drop j).flatMap (both p)) a (a.length : Int) ((i + 1 : Nat) : Int)) v → Ev (fun k => zone_Inter.l1 k b acc p a (a.length : Int) (i : Int) b (b.length : Int) (j : Int)) v
  | 0, j, acc, h, ha, hv => Ev.succ (by
    simp only [zone_Inter.l1]
    rw [List.drop_of_length_le (by omega), List.flatMap_nil, List.append_nil] at hv
    rw [wrap_add i (by omega)]
    exact Ev.neg (by omega) hv)
  | n + 1, j, acc, h, ha, hv => Ev.succ (by
    simp only [zone_Inter.l1]
    have hj : j < b.length := by omega
    refine Ev.pos (by omega) (Ev.pos (by omega) (Ev.pos (by omega) ?_))
    rw [rdOf_get _ _ _ hj, wrap_add j (by omega)]
    rw [List.drop_eq_getElem_cons hj, List.flatMap_cons, ← List.append_assoc] at hv
    refine Ev.bindc (v := hasP b[j] p) rfl ?_
    by_cases c : hasP b[j] p = true
    · refine Ev.pos c (Ev.pos (by omega) (inter_l1 a b hb p i hi n (j + 1) _ (by omega) (by simp; omega) ?_))
      simpa [both, c] using hv
    · refine Ev.neg c (Ev.bindc (v := hasP p b[j]) rfl ?_)
      by_cases c2 : hasP p b[j] = true
      · refine Ev.pos c2 (Ev.pos (by omega) (inter_l1 a b hb p i hi n (j + 1) _ (by omega) (by simp; omega) ?_))
        simpa [both, c, c2] using hv
      · refine Ev.neg c2 (inter_l1 a b hb p i hi n (j + 1) _ (by omega) (by omega) ?_)
        simpa [both, c, c2] using hv)
theorem flat_len {α β : Type} (f : α → List β) (h : ∀ x, (f x).length ≤ 1) : ∀ l : List α, (l.flatMap f).length ≤ l.length
  | [] => by simp
  | x :: l => by rw [List.flatMap_cons, List.length_append, List.length_cons]; have := h x; have := flat_len f h l; omega
theorem inter_l0 (a b : List ByteArray) (ha : a.length < 10000) (hb : b.length < 10000) : ∀ (n i : Nat) (acc : List ByteArray), a.length = i + n → acc.length ≤ i * 10000 →
    Ev (fun k => zone_Inter.l0 k b acc a (a.length : Int) (i : Int)) (onceL (acc ++ (a.drop i).flatMap fun p => b.flatMap (both p)))
  | 0, i, acc, h, hacc => Ev.succ (by
    simp only [zone_Inter.l0]
    rw [List.drop_of_length_le (by omega), List.flatMap_nil, List.append_nil]
    exact Ev.neg (by omega) (Ev.bindc (by unfold zone_once.f; rw [if_pos (by unfold lim; omega)]) (Ev.const _)))
  | n + 1, i, acc, h, hacc => Ev.succ (by
    simp only [zone_Inter.l0]
    have hi : i < a.length := by omega
    refine Ev.pos (by omega) (Ev.pos (by omega) (Ev.pos (by omega) ?_))
    rw [rdOf_get _ _ _ hi, List.drop_eq_getElem_cons hi, List.flatMap_cons, ← List.append_assoc]
    have hf := flat_len (both a[i]) (both_len _) b
    exact inter_l1 a b hb a[i] i (by omega) b.length 0 acc (by omega) (by omega) (inter_l0 a b ha hb n (i + 1) _ (by omega) (by rw [List.length_append, List.drop_zero]; omega)))
theorem inter_ev (a b : List ByteArray) (ha : a.length < 10000) (hb : b.length < 10000) : Ev (fun k => zone_Inter.f k a b) (interL a b) := by
  unfold zone_Inter.f
  exact inter_l0 a b ha hb a.length 0 [] (by omega) (by simp)
theorem without_val (a b : List ByteArray) (ha : a.length < 10000) : zone_Without.f a b = some (onceL (a.filter fun p => !coversL b p)) := by
  unfold zone_Without.f
  rw [if_pos (by unfold lim; omega)]
end Go.Proofs.Ytciiodbkhilkmaa.F

/- Chapter 08: the texts of a list that begin with no other one; a list's one form again; zones within each other; awake. -/
namespace Go.Proofs.Ytciiodbkhilkmaa.F
set_option linter.unusedVariables false
set_option linter.unusedSimpArgs false
open Go.RowKit Go.Proofs.YtciiodbkhilkmaaW.PrintWords Go.Proofs.YtciiodbkhilkmaaW.PrintLast Go.Proofs.YtciiodbkhilkmaaW.PrintMore
/-- The texts of a list that begin with no other one, rising. -/
def mins (l : List ByteArray) : List ByteArray := (onceL l).filter (minB l)
theorem mins_up (l : List ByteArray) : Up (mins l) := (onceL_up l).filter _
theorem mins_mem {l : List ByteArray} {x : ByteArray} : x ∈ mins l ↔ x ∈ l ∧ minB l x = true := by unfold mins; rw [List.mem_filter, onceL_mem]
theorem mins_congr {l m : List ByteArray} (h : ∀ x, x ∈ l ↔ x ∈ m) : mins l = mins m := by
  unfold mins
  rw [onceL_congr h, show minB l = minB m from funext (minB_congr h)]
theorem mins_covers (l : List ByteArray) (k : ByteArray) : coversL (mins l) k = coversL l k := by
  unfold mins
  rw [← show minB (onceL l) = minB l from funext (minB_congr (onceL_mem l)), covers_min]
  exact covers_congr (onceL_mem l) k
theorem mins_of {l : List ByteArray} (hu : Up l) (hm : ∀ p ∈ l, minB l p = true) : mins l = l := by
  unfold mins
  rw [onceL_self hu, List.filter_eq_self.2 hm]
theorem mins_mins (l : List ByteArray) : mins (mins l) = mins l := mins_of (mins_up l) fun p hp => minB_iff.2 fun q hq h => minB_iff.1 (mins_mem.1 hp).2 q (mins_mem.1 hq).1 h
theorem normZ_eq (l : List ByteArray) : normZ l = if l.all pfx = true then endZ (mins l) else ([], 2) := rfl
theorem normZ_ok {l : List ByteArray} (h : (normZ l).2 = 0) : (∀ p ∈ l, pfx p = true) ∧ (mins l).length ≤ 8 ∧ normZ l = (mins l, 0) := by
  rw [normZ_eq] at h ⊢
  by_cases c : l.all pfx = true
  · rw [if_pos c] at h ⊢
    unfold endZ at h ⊢
    by_cases c2 : (mins l).length > 8
    · rw [if_pos c2] at h; exact absurd h (by decide)
    · rw [if_neg c2]; exact ⟨List.all_eq_true.1 c, by omega, rfl⟩
  · rw [if_neg c] at h; exact absurd h (by decide)
theorem normZ_of {l : List ByteArray} (h1 : ∀ p ∈ l, pfx p = true) (h2 : (mins l).length ≤ 8) : normZ l = (mins l, 0) := by
  rw [normZ_eq, if_pos (List.all_eq_true.2 h1)]
  unfold endZ
  rw [if_neg (by omega)]
theorem normZ_bad {l : List ByteArray} (h : (normZ l).2 ≠ 0) : (normZ l).1 = [] := by
  rw [normZ_eq] at h ⊢
  by_cases c : l.all pfx = true
  · rw [if_pos c] at h ⊢
    unfold endZ at h ⊢
    by_cases c2 : (mins l).length > 8
    · rw [if_pos c2]
    · rw [if_neg c2] at h; exact absurd rfl h
  · rw [if_neg c]
theorem normZ_again {l : List ByteArray} (h : (normZ l).2 = 0) : normZ (normZ l).1 = normZ l := by
  obtain ⟨h1, h2, h3⟩ := normZ_ok h
  rw [h3]
  show normZ (mins l) = _
  rw [normZ_of (fun p hp => h1 p (mins_mem.1 hp).1) (by rw [mins_mins]; exact h2), mins_mins]
theorem right_iff {l : List ByteArray} : rightB l = true ↔ (∀ p ∈ l, pfx p = true) ∧ mins l = l ∧ l.length ≤ 8 := by
  unfold rightB
  rw [decide_eq_true_iff]
  constructor
  · rintro ⟨h, e⟩
    obtain ⟨h1, h2, h3⟩ := normZ_ok h
    rw [h3] at e
    have e : mins l = l := e
    exact ⟨h1, e, e ▸ h2⟩
  · rintro ⟨h1, h2, h3⟩
    rw [normZ_of h1 (by rw [h2]; exact h3)]
    exact ⟨rfl, h2⟩
theorem right_min {l : List ByteArray} (h : mins l = l) : Up l ∧ ∀ p ∈ l, ∀ q ∈ l, hasP q p = true → q = p := by
  refine ⟨h ▸ mins_up l, fun p hp => ?_⟩
  rw [← h] at hp
  exact minB_iff.1 (mins_mem.1 hp).2
def withinB (a b : List ByteArray) : Bool := !a.any fun p => !coversL b p
theorem within_val (a b : List ByteArray) : zone_Within.f a b = some (withinB a b) := rfl
theorem within_iff {a b : List ByteArray} : withinB a b = true ↔ ∀ p ∈ a, ∃ q ∈ b, hasP q p = true := by
  unfold withinB
  rw [Bool.not_eq_true', List.any_eq_false]
  constructor
  · intro h p hp
    have := h p hp
    simp only [Bool.not_eq_true', Bool.not_eq_false] at this
    exact covers_iff.1 this
  · intro h p hp
    simp [covers_iff.2 (h p hp)]

theorem awake_norm : normZ [(⟨#[97, 47, 98]⟩ : ByteArray), (⟨#[99]⟩ : ByteArray), (⟨#[97]⟩ : ByteArray)] = ([(⟨#[97]⟩ : ByteArray), (⟨#[99]⟩ : ByteArray)], 0) := by
  unfold normZ
  rw [onceL_eq (m := [(⟨#[97]⟩ : ByteArray), (⟨#[97, 47, 98]⟩ : ByteArray), (⟨#[99]⟩ : ByteArray)]) (by unfold Up; simp [bl]; decide) (fun x => by simp only [List.mem_cons, List.not_mem_nil, or_false]; grind)]
  rfl
theorem awake_ev : Ev (fun k => butterylaw08_awake.f k) true := by
  unfold butterylaw08_awake.f
  refine Ev.bind (norm_ev _ (by decide)) ?_
  rw [awake_norm]
  refine Ev.pos rfl (Ev.bind (same_ev _ _ (by decide)) ?_)
  refine Ev.pos (by decide) (Ev.bind (right_ev _ (by decide)) ?_)
  have hr : rightB [(⟨#[97]⟩ : ByteArray), (⟨#[99]⟩ : ByteArray)] = true := by
    have := normZ_again (l := [(⟨#[97, 47, 98]⟩ : ByteArray), (⟨#[99]⟩ : ByteArray), (⟨#[97]⟩ : ByteArray)]) (by rw [awake_norm])
    rw [awake_norm] at this
    unfold rightB
    rw [show normZ [(⟨#[97]⟩ : ByteArray), (⟨#[99]⟩ : ByteArray)] = _ from this]
    rfl
  exact Ev.pos hr (Ev.bindc (v := true) rfl (Ev.const _))
end Go.Proofs.Ytciiodbkhilkmaa.F

/- The reference's Once: the least that is greater than the last one, again and again: the one rising list of a list's texts. -/
namespace Go.Proofs.Ytciiodbkhilkmaa.F
set_option linter.unusedVariables false
set_option linter.unusedSimpArgs false
open Go.RowKit Go.Proofs.YtciiodbkhilkmaaW.PrintWords Go.Proofs.YtciiodbkhilkmaaW.PrintLast Go.Proofs.YtciiodbkhilkmaaW.PrintMore
/-- Does a text stand behind the last one taken? -/
def aft (out : List ByteArray) (x : ByteArray) : Prop := out = [] ∨ bl (out.getLastD ByteArray.empty) < bl x
def InvO (out xs : List ByteArray) (b : ByteArray) (ok : Bool) : Prop :=
  (ok = false → ∀ x ∈ xs, ¬ aft out x) ∧ (ok = true → b ∈ xs ∧ aft out b ∧ ∀ x ∈ xs, aft out x → bl b ≤ bl x)
theorem InvO.take {out xs : List ByteArray} {b x : ByteArray} {ok : Bool} (h : InvO out xs b ok) (hx : aft out x) (hl : ok = true → bl x < bl b) : InvO out (xs ++ [x]) x true := by
  refine ⟨fun c => by simp at c, fun _ => ⟨by simp, hx, fun y hy ha => ?_⟩⟩
  rcases List.mem_append.1 hy with hy | hy
  · cases ok with
    | true => exact List.le_trans (List.le_of_lt (hl rfl)) ((h.2 rfl).2.2 y hy ha)
    | false => exact absurd ha (h.1 rfl y hy)
  · rw [List.mem_singleton.1 hy]; exact List.le_refl _
theorem InvO.pass {out xs : List ByteArray} {b x : ByteArray} {ok : Bool} (h : InvO out xs b ok) (hx : aft out x → ok = true ∧ ¬ bl x < bl b) : InvO out (xs ++ [x]) b ok := by
  refine ⟨fun c y hy => ?_, fun c => ⟨List.mem_append_left _ (h.2 c).1, (h.2 c).2.1, fun y hy ha => ?_⟩⟩
  · rcases List.mem_append.1 hy with hy | hy
    · exact h.1 c y hy
    · rw [List.mem_singleton.1 hy]
      intro ha
      have := (hx ha).1
      rw [c] at this
      exact absurd this (by simp)
  · rcases List.mem_append.1 hy with hy | hy
    · exact (h.2 c).2.2 y hy ha
    · obtain rfl := List.mem_singleton.1 hy
      exact List.not_lt.1 (hx ha).2
theorem once_l1 (l out : List ByteArray) (hl : l.length < 100000) (ho : out.length < 100000) {v : List ByteArray} (hv : ∀ b ok, InvO out l b ok → Ev (fun k => if ok = true then (if out.length < 8796093022208 then butteryref08_Once.l0 k l (out ++ [b]) else none) else some out) v) :
    ∀ (n i : Nat) (b : ByteArray) (ok : Bool), l.length = i + n → InvO out (l.take i) b ok → Ev (fun k => butteryref08_Once.l1 k l out b ok (i : Int)) v
  | 0, i, b, ok, h, hI => Ev.succ (by
    simp only [butteryref08_Once.l1]
    rw [List.take_of_length_le (by omega)] at hI
    exact Ev.neg (by omega) (hv b ok hI))
  | n + 1, i, b, ok, h, hI => Ev.succ (by
    simp only [butteryref08_Once.l1]
    have hi : i < l.length := by omega
    have tk : l.take (i + 1) = l.take i ++ [l[i]] := by rw [List.take_succ_eq_append_getElem hi]
    have yes : ∀ b' ok', InvO out (l.take i ++ [l[i]]) b' ok' → Ev (fun k => butteryref08_Once.l1 k l out b' ok' ((i + 1 : Nat) : Int)) v := fun b' ok' h' => once_l1 l out hl ho hv n (i + 1) b' ok' (by omega) (by rw [tk]; exact h')
    refine Ev.pos (by omega) ?_
    rw [rdOf_get _ _ _ hi, wrap_add i (by omega)]
    by_cases e : out = []
    · have ha : aft out l[i] := .inl e
      refine Ev.pos (by simp [e]) ?_
      by_cases c : ok = true
      · refine Ev.pos c (Ev.pos (by omega) ?_)
        by_cases c2 : bl l[i] < bl b
        · exact Ev.pos ((less_bl _ _).2 c2) (yes _ _ (hI.take ha fun _ => c2))
        · exact Ev.neg (fun h => c2 ((less_bl _ _).1 h)) (yes _ _ (hI.pass fun _ => ⟨c, c2⟩))
      · exact Ev.neg c (Ev.pos (by omega) (yes _ _ (hI.take ha fun h => absurd h c)))
    · have hlen := List.length_pos_iff.2 e
      obtain ⟨q1, q2, q3⟩ := last_rd out e (by omega)
      refine Ev.neg (by omega) (Ev.pos (by omega) (Ev.pos q2 (Ev.pos q3 ?_)))
      rw [q1]
      by_cases a : bl (out.getLastD ByteArray.empty) < bl l[i]
      · refine Ev.pos ((less_bl _ _).2 a) ?_
        by_cases c : ok = true
        · refine Ev.pos c ?_
          by_cases c2 : bl l[i] < bl b
          · exact Ev.pos ((less_bl _ _).2 c2) (yes _ _ (hI.take (.inr a) fun _ => c2))
          · exact Ev.neg (fun h => c2 ((less_bl _ _).1 h)) (yes _ _ (hI.pass fun _ => ⟨c, c2⟩))
        · exact Ev.neg c (yes _ _ (hI.take (.inr a) fun h => absurd h c))
      · exact Ev.neg (fun h => a ((less_bl _ _).1 h)) (yes _ _ (hI.pass fun h => absurd h (fun h => h.elim e a))))
theorem aft_iff {S : List ByteArray} (hS : Up S) (m : Nat) {x : ByteArray} (hx : x ∈ S) : aft (S.take m) x ↔ x ∈ S.drop m := by
  have e := List.take_append_drop m S
  have hp := List.pairwise_append.1 (show (S.take m ++ S.drop m).Pairwise _ from e ▸ hS)
  have hx' : x ∈ S.take m ∨ x ∈ S.drop m := List.mem_append.1 (by rw [e]; exact hx)
  by_cases c : S.take m = []
  · constructor
    · intro _
      rcases hx' with h | h
      · rw [c] at h; exact absurd h (by simp)
      · exact h
    · exact fun _ => .inl c
  · have hlast : (S.take m).getLastD ByteArray.empty = (S.take m).getLast c := by rw [List.getLastD_eq_getLast?, List.getLast?_eq_some_getLast c]; rfl
    have hm := List.getLast_mem c
    constructor
    · rintro (h | h)
      · exact absurd h c
      rcases hx' with h2 | h2
      · rw [hlast] at h
        exfalso
        have ha := (List.dropLast_concat_getLast c).symm
        have hp1 := hp.1
        generalize (S.take m).getLast c = y at *
        rw [ha] at h2 hp1
        rcases List.mem_append.1 h2 with h2 | h2
        · exact List.lt_irrefl _ (List.lt_trans h ((List.pairwise_append.1 hp1).2.2 x h2 y (.head _)))
        · rw [List.mem_singleton.1 h2] at h
          exact List.lt_irrefl _ h
      · exact h2
    · intro h
      exact .inr (hlast ▸ hp.2.2 _ hm x h)
theorem once_l0 (l : List ByteArray) (hl : l.length < 100000) : ∀ (n m : Nat), (onceL l).length = m + n → Ev (fun k => butteryref08_Once.l0 k l ((onceL l).take m)) (onceL l)
  | n, m, h => Ev.succ (by
    simp only [butteryref08_Once.l0]
    have hS := onceL_up l
    have hlen := onceL_len l
    refine once_l1 l _ hl (by rw [List.length_take]; omega) (fun b ok hI => ?_) l.length 0 _ false (by omega) ⟨fun _ x hx => by simp at hx, fun c => by simp at c⟩
    cases ok with
    | false =>
      refine Ev.neg (by simp) (Ev.eq (Ev.const _) ?_)
      have hd : (onceL l).drop m = [] := List.eq_nil_iff_forall_not_mem.2 fun x hx => by
        have hxS := List.mem_of_mem_drop hx
        exact hI.1 rfl x ((onceL_mem l x).1 hxS) ((aft_iff hS m hxS).2 hx)
      have e := List.take_append_drop m (onceL l)
      rw [hd, List.append_nil] at e
      exact e
    | true =>
      obtain ⟨h1, h2, h3⟩ := hI.2 rfl
      have hb := (aft_iff hS m ((onceL_mem l b).2 h1)).1 h2
      cases n with
      | zero => rw [List.drop_of_length_le (by omega)] at hb; exact absurd hb (by simp)
      | succ n =>
        have hm : m < (onceL l).length := by omega
        have hd := List.drop_eq_getElem_cons hm
        have e : b = (onceL l)[m] := by
          rw [hd] at hb
          rcases List.mem_cons.1 hb with hb | hb
          · exact hb
          have hup : ((onceL l).drop m).Pairwise fun a b => bl a < bl b := hS.drop
          rw [hd] at hup
          have g1 := (List.pairwise_cons.1 hup).1 b hb
          have g2 := h3 (onceL l)[m] ((onceL_mem l _).1 (List.getElem_mem hm)) ((aft_iff hS m (List.getElem_mem hm)).2 (by rw [hd]; exact .head _))
          exact absurd g2 (List.not_le.2 g1)
        refine Ev.pos rfl (Ev.pos (by rw [List.length_take]; omega) ?_)
        rw [e, ← List.take_succ_eq_append_getElem hm]
        exact once_l0 l hl n (m + 1) (by omega))
theorem once_ev (l : List ByteArray) (hl : l.length < 100000) : Ev (fun k => butteryref08_Once.f k l) (onceL l) := by
  unfold butteryref08_Once.f
  exact once_l0 l hl (onceL l).length 0 (by omega)
end Go.Proofs.Ytciiodbkhilkmaa.F

/- Chapter 08: what the reference's functions answer, in the end: the same words as zone's. -/
namespace Go.Proofs.Ytciiodbkhilkmaa.F
set_option linter.unusedVariables false
set_option linter.unusedSimpArgs false
open Go.RowKit Go.Proofs.YtciiodbkhilkmaaW.PrintWords Go.Proofs.YtciiodbkhilkmaaW.PrintLast Go.Proofs.YtciiodbkhilkmaaW.PrintMore
def Small (l : List ByteArray) : Prop := l.length < 10000 ∧ ∀ x ∈ l, x.size ≤ 200
theorem Small.of {l : List ByteArray} (h : shortB l = true) : Small l := ⟨by have := (short_iff.1 h).1; omega, (short_iff.1 h).2⟩
theorem begins_l0 (s p : ByteArray) (hp : p.size ≤ s.size) (h2 : p.size < 1000000) : ∀ (n i : Nat), p.size = i + n → Ev (fun k => butteryref08_Begins.l0 k s p (i : Int)) (((bl p).drop i).isPrefixOf ((bl s).drop i))
  | 0, i, h => Ev.succ (by
    have := bl_len p
    simp only [butteryref08_Begins.l0]
    exact Ev.neg (by omega) (Ev.eq (Ev.const _) (by rw [List.drop_of_length_le (by omega)]; rfl)))
  | n + 1, i, h => Ev.succ (by
    have := bl_len p
    have := bl_len s
    simp only [butteryref08_Begins.l0]
    have hi : i < (bl p).length := by omega
    have hj : i < (bl s).length := by omega
    refine Ev.pos (by omega) (Ev.pos (by omega) (Ev.pos (by omega) ?_))
    rw [bt_get p i hi, bt_get s i hj, wrap_add i (by omega), List.drop_eq_getElem_cons hi, List.drop_eq_getElem_cons hj]
    have ih := begins_l0 s p hp h2 n (i + 1) (by omega)
    by_cases c : (bl s)[i] = (bl p)[i]
    · exact Ev.pos (by rw [c]) (Ev.eq ih (by rw [List.isPrefixOf, c]; simp))
    · refine Ev.neg (fun h => c (UInt8.toNat_inj.1 (by omega))) (Ev.eq (Ev.const _) ?_)
      rw [List.isPrefixOf, beq_eq_false_iff_ne.2 (fun h => c h.symm)]
      rfl)
theorem begins_ev (s p : ByteArray) (h2 : p.size < 1000000) : Ev (fun k => butteryref08_Begins.f k s p) (hasP p s) := by
  unfold butteryref08_Begins.f
  by_cases c : p.size ≤ s.size
  · exact Ev.neg (by omega) (Ev.eq (begins_l0 s p c h2 p.size 0 (by omega)) rfl)
  · refine Ev.pos (by omega) (Ev.eq (Ev.const _) ?_)
    rw [eq_comm, Bool.eq_false_iff]
    intro h
    have := (hasP_iff.1 h).length_le
    rw [bl_len, bl_len] at this
    exact c this
theorem rprefix_l0 (p : ByteArray) (hp : p.size < 1000000) : ∀ (n i : Nat), p.size = i + n → Ev (fun k => butteryref08_Prefix.l0 k p (i : Int)) ((((bl p).drop i).all fun c => pcI c.toNat) && decide (p.size ≤ 16))
  | 0, i, h => Ev.succ (by
    have := bl_len p
    simp only [butteryref08_Prefix.l0]
    refine Ev.neg (by omega) (Ev.eq (Ev.const _) ?_)
    rw [List.drop_of_length_le (by omega), List.all_nil, Bool.true_and, decide_eq_decide]
    omega)
  | n + 1, i, h => Ev.succ (by
    simp only [butteryref08_Prefix.l0]
    have hi : i < (bl p).length := by rw [bl_len]; omega
    refine Ev.pos (by omega) (Ev.pos (by omega) ?_)
    rw [bt_get p i hi, wrap_add i (by omega), List.drop_eq_getElem_cons hi, List.all_cons]
    have ih := rprefix_l0 p hp n (i + 1) (by omega)
    generalize (bl p)[i].toNat = c at ih ⊢
    have yes : pcI c = true → Ev (fun k => butteryref08_Prefix.l0 k p ((i + 1 : Nat) : Int)) ((pcI c && ((bl p).drop (i + 1)).all fun c => pcI c.toNat) && decide (p.size ≤ 16)) := fun h => Ev.eq ih (by rw [h, Bool.true_and])
    have no : pcI c = false → Ev (fun _ => some false) ((pcI c && ((bl p).drop (i + 1)).all fun c => pcI c.toNat) && decide (p.size ≤ 16)) := fun h => Ev.eq (Ev.const _) (by rw [h, Bool.false_and, Bool.false_and])
    by_cases c1 : c = 47
    · exact Ev.pos (by omega) (yes (by simp [pcI, c1]))
    refine Ev.neg (by omega) ?_
    have let_ : 57 < c ∨ c < 48 → Ev (fun k => if (97 : Int) ≤ (c : Int) then (if (c : Int) ≤ 122 then butteryref08_Prefix.l0 k p ((i + 1 : Nat) : Int) else some false) else some false) ((pcI c && ((bl p).drop (i + 1)).all fun c => pcI c.toNat) && decide (p.size ≤ 16)) := fun h => by
      by_cases c3 : 97 ≤ c
      · refine Ev.pos (by omega) ?_
        by_cases c4 : c ≤ 122
        · exact Ev.pos (by omega) (yes (by simp [pcI]; omega))
        · exact Ev.neg (by omega) (no (by simp [pcI]; omega))
      · exact Ev.neg (by omega) (no (by simp [pcI]; omega))
    by_cases c2 : 48 ≤ c
    · refine Ev.pos (by omega) ?_
      by_cases c3 : c ≤ 57
      · exact Ev.pos (by omega) (yes (by simp [pcI]; omega))
      · exact Ev.neg (by omega) (let_ (by omega))
    · exact Ev.neg (by omega) (let_ (by omega)))
theorem rprefix_ev (p : ByteArray) (hp : p.size < 1000000) : Ev (fun k => butteryref08_Prefix.f k p) (pfx p) := by
  unfold butteryref08_Prefix.f pfx
  exact Ev.eq (rprefix_l0 p hp p.size 0 (by omega)) (by rw [List.drop_zero, Bool.and_comm])
theorem rcovers_l0 (z : List ByteArray) (key : ByteArray) (hz : Small z) : ∀ (n i : Nat), z.length = i + n → Ev (fun k => butteryref08_Covers.l0 k z key (i : Int)) (coversL (z.drop i) key)
  | 0, i, h => Ev.succ (by
    simp only [butteryref08_Covers.l0]
    exact Ev.neg (by omega) (Ev.eq (Ev.const _) (by rw [List.drop_of_length_le (by omega)]; rfl)))
  | n + 1, i, h => Ev.succ (by
    have hz1 := hz.1
    simp only [butteryref08_Covers.l0]
    have hi : i < z.length := by omega
    refine Ev.pos (by omega) (Ev.pos (by omega) ?_)
    rw [rdOf_get _ _ _ hi, wrap_add i (by omega), List.drop_eq_getElem_cons hi]
    refine Ev.bind (begins_ev _ _ (by have := hz.2 z[i] (List.getElem_mem hi); omega)) ?_
    unfold coversL
    rw [List.any_cons]
    by_cases c : hasP z[i] key = true
    · exact Ev.pos c (Ev.eq (Ev.const _) (by rw [c]; rfl))
    · exact Ev.neg c (Ev.eq (rcovers_l0 z key hz n (i + 1) (by omega)) (by rw [Bool.eq_false_iff.2 c, Bool.false_or]; rfl)))
theorem rcovers_ev (z : List ByteArray) (key : ByteArray) (hz : Small z) : Ev (fun k => butteryref08_Covers.f k z key) (coversL z key) := by
  unfold butteryref08_Covers.f
  exact rcovers_l0 z key hz z.length 0 (by omega)
theorem rwithout_l0 (a b : List ByteArray) (ha : a.length < 10000) (hb : Small b) : ∀ (n i : Nat) (out : List ByteArray), a.length = i + n → out.length ≤ i → Ev (fun k => butteryref08_Without.l0 k a b out (i : Int)) (onceL (out ++ (a.drop i).filter fun p => !coversL b p))
  | 0, i, out, h, ho => Ev.succ (by
    simp only [butteryref08_Without.l0]
    rw [List.drop_of_length_le (by omega), List.filter_nil, List.append_nil]
    exact Ev.neg (by omega) (Ev.bind (once_ev out (by omega)) (Ev.const _)))
  | n + 1, i, out, h, ho => Ev.succ (by
    simp only [butteryref08_Without.l0]
    have hi : i < a.length := by omega
    refine Ev.pos (by omega) (Ev.pos (by omega) ?_)
    rw [rdOf_get _ _ _ hi, wrap_add i (by omega), List.drop_eq_getElem_cons hi]
    refine Ev.bind (rcovers_ev b _ hb) ?_
    by_cases c : coversL b a[i] = true
    · exact Ev.pos c (Ev.eq (rwithout_l0 a b ha hb n (i + 1) out (by omega) (by omega)) (by rw [List.filter_cons_of_neg (by simp [c])]))
    · exact Ev.neg c (Ev.pos (by omega) (Ev.eq (rwithout_l0 a b ha hb n (i + 1) _ (by omega) (by simp; omega)) (by rw [List.filter_cons_of_pos (by simp [c]), List.append_assoc]; rfl))))
theorem rwithout_ev (a b : List ByteArray) (ha : a.length < 10000) (hb : Small b) : Ev (fun k => butteryref08_Without.f k a b) (onceL (a.filter fun p => !coversL b p)) := by
  unfold butteryref08_Without.f
  exact rwithout_l0 a b ha hb a.length 0 [] (by omega) (by simp)
theorem rwithin_ev (a b : List ByteArray) (ha : a.length < 10000) (hb : Small b) : Ev (fun k => butteryref08_Within.f k a b) (withinB a b) := by
  unfold butteryref08_Within.f
  refine Ev.bind (rwithout_ev a b ha hb) (Ev.eq (Ev.const _) ?_)
  rw [Bool.eq_iff_iff, within_iff, beq_iff_eq]
  constructor
  · intro h p hp
    refine Decidable.byContradiction fun c => ?_
    have hc : coversL b p = false := Bool.eq_false_iff.2 fun h => c (covers_iff.1 h)
    have : p ∈ onceL (a.filter fun p => !coversL b p) := (onceL_mem _ _).2 (List.mem_filter.2 ⟨hp, by rw [hc]; rfl⟩)
    have h0 : (onceL (a.filter fun p => !coversL b p)).length = 0 := by omega
    rw [List.length_eq_zero_iff.1 h0] at this
    exact absurd this (by simp)
  · intro h
    have : a.filter (fun p => !coversL b p) = [] := List.filter_eq_nil_iff.2 fun p hp => by simp [covers_iff.2 (h p hp)]
    rw [this, show onceL [] = [] from onceL_eq List.Pairwise.nil (by simp)]
    rfl
theorem rinter_l1 (a b : List ByteArray) (ha : Small a) (hb : b.length < 10000) : ∀ (n i : Nat) (out : List ByteArray), b.length = i + n → out.length ≤ 10000 + i → Ev (fun k => butteryref08_Inter.l1 k a b out (i : Int)) (onceL (out ++ (b.drop i).filter (coversL a)))
  | 0, i, out, h, ho => Ev.succ (by
    simp only [butteryref08_Inter.l1]
    rw [List.drop_of_length_le (by omega), List.filter_nil, List.append_nil]
    exact Ev.neg (by omega) (Ev.bind (once_ev out (by omega)) (Ev.const _)))
  | n + 1, i, out, h, ho => Ev.succ (by
    simp only [butteryref08_Inter.l1]
    have hi : i < b.length := by omega
    refine Ev.pos (by omega) (Ev.pos (by omega) ?_)
    rw [rdOf_get _ _ _ hi, wrap_add i (by omega), List.drop_eq_getElem_cons hi]
    refine Ev.bind (rcovers_ev a _ ha) ?_
    by_cases c : coversL a b[i] = true
    · exact Ev.pos c (Ev.pos (by omega) (Ev.eq (rinter_l1 a b ha hb n (i + 1) _ (by omega) (by simp; omega)) (by rw [List.filter_cons_of_pos (by simp [c]), List.append_assoc]; rfl)))
    · exact Ev.neg c (Ev.eq (rinter_l1 a b ha hb n (i + 1) out (by omega) (by omega)) (by rw [List.filter_cons_of_neg (by simp [c])])))
theorem rinter_l0 (a b : List ByteArray) (ha : Small a) (hb : Small b) : ∀ (n i : Nat) (out : List ByteArray), a.length = i + n → out.length ≤ i → Ev (fun k => butteryref08_Inter.l0 k a b out (i : Int)) (onceL (out ++ (a.drop i).filter (coversL b) ++ b.filter (coversL a)))
  | 0, i, out, h, ho => Ev.succ (by
    have := ha.1
    simp only [butteryref08_Inter.l0]
    rw [List.drop_of_length_le (by omega), List.filter_nil, List.append_nil]
    exact Ev.neg (by omega) (rinter_l1 a b ha hb.1 b.length 0 out (by omega) (by omega)))
  | n + 1, i, out, h, ho => Ev.succ (by
    have := ha.1
    simp only [butteryref08_Inter.l0]
    have hi : i < a.length := by omega
    refine Ev.pos (by omega) (Ev.pos (by omega) ?_)
    rw [rdOf_get _ _ _ hi, wrap_add i (by omega), List.drop_eq_getElem_cons hi]
    refine Ev.bind (rcovers_ev b _ hb) ?_
    by_cases c : coversL b a[i] = true
    · exact Ev.pos c (Ev.pos (by omega) (Ev.eq (rinter_l0 a b ha hb n (i + 1) _ (by omega) (by simp; omega)) (by rw [List.filter_cons_of_pos (by simp [c]), List.append_assoc out]; rfl)))
    · exact Ev.neg c (Ev.eq (rinter_l0 a b ha hb n (i + 1) out (by omega) (by omega)) (by rw [List.filter_cons_of_neg (by simp [c])])))
theorem inter_mem {a b : List ByteArray} {x : ByteArray} : x ∈ interL a b ↔ (x ∈ a ∧ coversL b x = true) ∨ (x ∈ b ∧ coversL a x = true) := by
  unfold interL
  rw [onceL_mem]
  simp only [List.mem_flatMap, both, covers_iff]
  constructor
  · rintro ⟨p, h1, q, h2, h3⟩
    split at h3
    · rename_i h; obtain rfl := List.mem_singleton.1 h3; exact .inl ⟨h1, q, h2, h⟩
    · split at h3
      · rename_i h; obtain rfl := List.mem_singleton.1 h3; exact .inr ⟨h2, p, h1, h⟩
      · exact absurd h3 (by simp)
  · rintro (⟨h1, q, h2, h⟩ | ⟨h1, p, h2, h⟩)
    · exact ⟨x, h1, q, h2, by rw [if_pos h]; simp⟩
    · refine ⟨p, h2, x, h1, ?_⟩
      by_cases c : hasP x p = true
      · rw [if_pos c, hasP_anti h c]; simp
      · rw [if_neg c, if_pos h]; simp
theorem rinter_ev (a b : List ByteArray) (ha : Small a) (hb : Small b) : Ev (fun k => butteryref08_Inter.f k a b) (interL a b) := by
  unfold butteryref08_Inter.f
  refine Ev.eq (rinter_l0 a b ha hb a.length 0 [] (by omega) (by simp)) ?_
  refine onceL_eq (onceL_up _) fun x => ?_
  rw [inter_mem]
  simp
theorem rnorm_l1 (l : List ByteArray) (hl : Small l) (out : List ByteArray) (i : Nat) (hi : i < l.length) (ho : out.length ≤ i) {v : List ByteArray × Int}
    (hv : Ev (fun k => butteryref08_Norm.l0 k l (out ++ [l[i]].filter (minB l)) ((i + 1 : Nat) : Int)) v) : ∀ (n j : Nat) (al : Bool), l.length = j + n → al = (!(l.take j).any fun q => bl q != bl l[i] && hasP q l[i]) → Ev (fun k => butteryref08_Norm.l1 k l out (i : Int) al (j : Int)) v
  | 0, j, al, h, ha => Ev.succ (by
    have h1 := hl.1
    simp only [butteryref08_Norm.l1]
    rw [List.take_of_length_le (by omega)] at ha
    have ha : al = minB l l[i] := ha
    refine Ev.neg (by omega) ?_
    rw [wrap_add i (by omega)]
    by_cases c : minB l l[i] = true
    · refine Ev.pos (ha.trans c) (Ev.pos (by omega) (Ev.pos (by omega) (Ev.pos (by omega) ?_)))
      rw [rdOf_get _ _ _ hi]
      simpa [c] using hv
    · refine Ev.neg (by rw [ha]; exact c) ?_
      simpa [c] using hv)
  | n + 1, j, al, h, ha => Ev.succ (by
    have h1 := hl.1
    simp only [butteryref08_Norm.l1]
    have hj : j < l.length := by omega
    refine Ev.pos (by omega) (Ev.pos (by omega) (Ev.pos (by omega) (Ev.pos (by omega) ?_)))
    rw [rdOf_get _ _ _ hi, rdOf_get _ _ _ hj, wrap_add j (by omega), toList_bl, toList_bl]
    have tk : l.take (j + 1) = l.take j ++ [l[j]] := by rw [List.take_succ_eq_append_getElem hj]
    have go := fun al' h' => rnorm_l1 l hl out i hi ho hv n (j + 1) al' (by omega) h'
    rw [tk] at go
    simp only [List.any_append, List.any_cons, List.any_nil, Bool.or_false] at go
    by_cases c : bl l[j] = bl l[i]
    · exact Ev.pos c (go al (by rw [ha, c]; simp))
    · refine Ev.neg c (Ev.bind (begins_ev _ _ (by have := hl.2 l[j] (List.getElem_mem hj); omega)) ?_)
      by_cases c2 : hasP l[j] l[i] = true
      · exact Ev.pos c2 (go false (by simp [c, c2]))
      · exact Ev.neg c2 (go al (by rw [ha]; simp [c2])))
theorem rnorm_l0 (l : List ByteArray) (hl : Small l) : ∀ (n i : Nat), l.length = i + n → Ev (fun k => butteryref08_Norm.l0 k l ((l.take i).filter (minB l)) (i : Int)) (if (l.drop i).all pfx = true then endZ (mins l) else ([], 2))
  | 0, i, h => Ev.succ (by
    have h1 := hl.1
    simp only [butteryref08_Norm.l0]
    rw [List.drop_of_length_le (by omega), List.take_of_length_le (by omega), List.all_nil, if_pos rfl]
    have e : onceL (l.filter (minB l)) = mins l := onceL_eq (mins_up l) fun x => by rw [mins_mem, List.mem_filter]
    refine Ev.neg (by omega) (Ev.bind (once_ev _ (by have := List.length_filter_le (minB l) l; omega)) ?_)
    rw [e]
    unfold endZ
    by_cases c : (mins l).length > 8
    · rw [if_pos c]; exact Ev.pos (by omega) (Ev.const _)
    · rw [if_neg c]; exact Ev.neg (by omega) (Ev.const _))
  | n + 1, i, h => Ev.succ (by
    have h1 := hl.1
    simp only [butteryref08_Norm.l0]
    have hi : i < l.length := by omega
    refine Ev.pos (by omega) (Ev.pos (by omega) ?_)
    rw [rdOf_get _ _ _ hi, List.drop_eq_getElem_cons hi, List.all_cons]
    refine Ev.bind (rprefix_ev _ (by have := hl.2 l[i] (List.getElem_mem hi); omega)) ?_
    by_cases c : pfx l[i] = true
    · rw [c, Bool.true_and]
      refine Ev.pos rfl (rnorm_l1 l hl _ i hi (by have := List.length_filter_le (minB l) (l.take i); rw [List.length_take] at this; omega) ?_ l.length 0 true (by omega) (by simp))
      rw [← List.filter_append, ← List.take_succ_eq_append_getElem hi]
      exact rnorm_l0 l hl n (i + 1) (by omega)
    · rw [if_neg (by simp [c])]
      exact Ev.neg c (Ev.const _))
theorem rnorm_ev (l : List ByteArray) (hl : Small l) : Ev (fun k => butteryref08_Norm.f k l) (normZ l) := by
  unfold butteryref08_Norm.f
  exact rnorm_l0 l hl l.length 0 (by omega)
def keyB (key : ByteArray) : Bool := decide (key.size ≠ 0) && pfx key
theorem key_ev (key : ByteArray) : Ev (fun k => zone_Key.f k key) (keyB key) := by
  unfold zone_Key.f keyB
  have := bl_len key
  rw [toList_bl]
  by_cases c : bl key = []
  · rw [c] at this
    exact Ev.pos c (Ev.eq (Ev.const _) (by simp [← this]))
  · have hc := List.length_pos_iff.2 c
    exact Ev.neg c (Ev.bind (prefix_ev key) (Ev.eq (Ev.const _) (by simp [show key.size ≠ 0 by omega])))
theorem rkey_ev (key : ByteArray) (h : key.size < 1000000) : Ev (fun k => butteryref08_Key.f k key) (keyB key) := by
  unfold butteryref08_Key.f keyB
  by_cases c : key.size = 0
  · exact Ev.neg (by omega) (Ev.eq (Ev.const _) (by simp [c]))
  · exact Ev.pos (by omega) (Ev.bind (rprefix_ev key h) (Ev.eq (Ev.const _) (by simp [c])))
end Go.Proofs.Ytciiodbkhilkmaa.F

/- Chapter 08: zone's functions and the reference's answer alike. -/
namespace Go.Proofs.Ytciiodbkhilkmaa.F
set_option linter.unusedVariables false
set_option linter.unusedSimpArgs false
open Go.RowKit Go.Proofs.YtciiodbkhilkmaaW.PrintWords Go.Proofs.YtciiodbkhilkmaaW.PrintLast Go.Proofs.YtciiodbkhilkmaaW.PrintMore
theorem all_j2 (a b : List ByteArray) (key : ByteArray) (ha : Small a) (hb : Small b) (hk : key.size ≤ 200) : Ev (fun k => butterylaw08_ZoneAll.j2 k a b key a b false) true := Ev.succ (by
  have h1 := ha.1
  have h2 := hb.1
  simp only [butterylaw08_ZoneAll.j2]
  refine Ev.neg (by simp) (Ev.bindc (within_val a b) (Ev.bind (rwithin_ev a b ha.1 hb) (Ev.pos (by simp) (Ev.bindc (v := coversL a key) rfl (Ev.bind (rcovers_ev a key ha) (Ev.pos (by simp) (Ev.bind (key_ev key) (Ev.bind (rkey_ev key (by omega)) (Ev.pos (by simp) (Ev.bind (same_ev a a (by omega)) (Ev.pos (by simp) (Ev.bind (same_ev b b (by omega)) ?_))))))))))))
  exact Ev.eq (Ev.const _) (by simp))
theorem all_j1 (a b : List ByteArray) (key : ByteArray) (ha : Small a) (hb : Small b) (hk : key.size ≤ 200) (ha' : a.length ≤ 60) (hb' : b.length ≤ 60) : Ev (fun k => butterylaw08_ZoneAll.j1 k a b key a b false) true := Ev.succ (by
  have h1 := ha.1
  have h2 := hb.1
  have h8 := normZ_len (a ++ b)
  have hab : Small (a ++ b) := ⟨by rw [List.length_append]; omega, fun x hx => by
    rcases List.mem_append.1 hx with hx | hx
    · exact ha.2 x hx
    · exact hb.2 x hx⟩
  have hi : (interL a b).length < 1000000 := by
    have := onceL_len (a.flatMap fun p => b.flatMap (both p))
    have hf : ∀ l : List ByteArray, (l.flatMap fun p => b.flatMap (both p)).length ≤ l.length * 60 := fun l => by
      induction l with
      | nil => simp
      | cons x l ih =>
        have := flat_len (both x) (both_len x) b
        rw [List.flatMap_cons, List.length_append, List.length_cons]
        omega
    have := hf a
    unfold interL
    omega
  have hw : (onceL (a.filter fun p => !coversL b p)).length < 1000000 := by
    have := onceL_len (a.filter fun p => !coversL b p)
    have := List.length_filter_le (fun p => !coversL b p) a
    omega
  simp only [butterylaw08_ZoneAll.j1]
  refine Ev.neg (by simp) (Ev.bind (union_ev a b (by omega) (by omega)) (Ev.bindc rfl (Ev.pos (by simp; omega) (Ev.bindc rfl (Ev.pos (by simp; omega) ?_)))))
  rw [List.nil_append]
  refine Ev.bind (rnorm_ev _ hab) (Ev.pos rfl (Ev.bind (same_ev _ _ (by omega)) (Ev.pos (by simp) (Ev.bind (inter_ev a b (by omega) (by omega)) (Ev.bind (rinter_ev a b ha hb) (Ev.bind (same_ev _ _ hi) (Ev.pos (by simp) (Ev.bindc (without_val a b (by omega)) (Ev.bind (rwithout_ev a b ha.1 hb) (Ev.bind (same_ev _ _ hw) ?_))))))))))
  simp only [decide_true, Bool.not_true]
  exact all_j2 a b key ha hb hk)
theorem all_law (a b : List ByteArray) (key : ByteArray) : Ev (fun k => butterylaw08_ZoneAll.f k a b key) true := by
  unfold butterylaw08_ZoneAll.f
  have out : Ev (fun k => butterylaw08_ZoneAll.j0 k a b key true) true := Ev.succ (by simp only [butterylaw08_ZoneAll.j0]; exact Ev.pos (by simp) (Ev.const _))
  refine Ev.bind awake_ev (Ev.pos rfl (Ev.bind (short_ev a) ?_))
  by_cases ha : shortB a = true
  rotate_left
  · exact Ev.neg ha out
  refine Ev.pos ha (Ev.bind (short_ev b) ?_)
  by_cases hb : shortB b = true
  rotate_left
  · exact Ev.neg hb out
  have la := (short_iff.1 ha).1
  have lb := (short_iff.1 hb).1
  refine Ev.pos hb ?_
  by_cases hk : decide ((key.size : Int) > 200) = true
  · rw [hk]; exact out
  have hk' : key.size ≤ 200 := by simp at hk; omega
  rw [Bool.eq_false_iff.2 hk]
  have sa := Small.of ha
  have sb := Small.of hb
  have h8 := normZ_len a
  have j1 := all_j1 a b key sa sb hk' la lb
  refine Ev.succ ?_
  simp only [butterylaw08_ZoneAll.j0]
  refine Ev.neg (by simp) (Ev.bindc rfl (Ev.pos (by simp; omega) (Ev.bindc rfl (Ev.bindc rfl (Ev.pos (by simp; omega) (Ev.bindc rfl ?_))))))
  rw [List.nil_append, List.nil_append]
  refine Ev.bind (norm_ev a (by omega)) (Ev.bind (rnorm_ev a sa) (Ev.pos rfl (Ev.bind (same_ev _ _ (by omega)) (Ev.pos (by simp) (Ev.bind (right_ev a (by omega)) ?_)))))
  by_cases c : (normZ a).2 = 0
  · refine Ev.pos c (Ev.bind (same_ev _ _ (by omega)) ?_)
    have e : (rightB a != decide ((normZ a).1 = a)) = false := by unfold rightB; simp [c]
    rw [e]
    exact j1
  · refine Ev.neg c ?_
    have e : (rightB a != false) = false := by unfold rightB; simp [c]
    rw [e]
    exact j1
end Go.Proofs.Ytciiodbkhilkmaa.F

/- Arguments as the model reads them, opened in the words of the walks: a slice of anything; a slice of strings. -/
namespace Go.Proofs.Ytciiodbkhilkmaa.F
set_option linter.unusedVariables false
set_option linter.unusedSimpArgs false
open Go.RowKit Go.ChangeShapes Go.WideShapes Go.Proofs.YtciiodbkhilkmaaW.PrintWords Go.Proofs.YtciiodbkhilkmaaW.PrintLast Go.Proofs.YtciiodbkhilkmaaW.PrintMore
theorem open_row {H : Type} {enc : TypeId × Value → H} {P : Program} {w : World} {base : Nat} {spare : Nat → Bool} {held : Bool} {α : Type} [Inhabited α] (kd : Kd α) {t e : TypeId} {fuel : Nat} {a : Option Addr} {len cap : Nat} {x : DataW H × List MemPlace}
    (ht : P.underlying t = some (.slice e)) (hc : P.cellsOf e = kd.sz) (hel : ∀ n cs y, DataW.trod enc P w base spare held n e cs = some y → ∃ p, kd.K w p cs)
    (h : DataW.trod enc P w base spare held fuel t [.slice a len cap] = some x) : ∃ l : List α, l.length = len ∧ len ≤ cap ∧ kd.C w a len l := by
  rcases Go.Deep.open_slice ht h with ⟨hcs, _⟩ | ⟨ad, len', cap', m, n, D, Pl, hcs, _, hl, hm, hmm, _, hx⟩
  · simp only [List.cons.injEq, Value.slice.injEq, and_true] at hcs
    obtain ⟨rfl, rfl, rfl⟩ := hcs
    exact ⟨[], rfl, Nat.le_refl _, Kd.C_nil kd w⟩
  · simp only [List.cons.injEq, Value.slice.injEq, and_true] at hcs
    obtain ⟨rfl, rfl, rfl⟩ := hcs
    have hlm : len ≤ m := by rw [hmm]; split <;> omega
    obtain ⟨f, hf⟩ := Go.Deep.choose_lt (α := α) (n := len) (p := fun i p => ∃ cs', w.cells? base (ad.add (i * P.cellsOf e)) (P.cellsOf e) = some cs' ∧ kd.K w p cs') (fun i hi => by
      obtain ⟨cs', h1, h2⟩ := hx i (by omega)
      obtain ⟨p, hp⟩ := hel _ _ _ h2
      exact ⟨p, cs', h1, hp⟩)
    refine ⟨(List.range len).map f, by simp, hl, by simp, by simp only [maxLen] at hm; omega, fun _ => ⟨ad, rfl, fun j p hj => ?_⟩⟩
    obtain ⟨hjl, rfl⟩ := List.getElem?_eq_some_iff.1 hj
    simp only [List.length_map, List.length_range] at hjl
    simp only [List.getElem_map, List.getElem_range]
    obtain ⟨cs', h1, h2⟩ := hf j hjl
    obtain ⟨_, hlen, hcell⟩ := World.cells?_some h1
    refine ⟨cs', kd.K_len h2, h2, fun i u hu => ?_⟩
    obtain ⟨hi, _⟩ := List.getElem?_eq_some_iff.1 hu
    have := hcell i (by omega)
    rw [Go.Deep.add_add, hc] at this
    rw [this, hu]
theorem open_strs {H : Type} {enc : TypeId × Value → H} {w : World} {base : Nat} {spare : Nat → Bool} {held : Bool} {fuel : Nat} {a : Option Addr} {len cap : Nat} {x : DataW H × List MemPlace}
    (h : DataW.trod enc Try.prog w base spare held fuel 29 [.slice a len cap] = some x) : ∃ l : List ByteArray, l.length = len ∧ len ≤ cap ∧ Kd.string.C w a len l :=
  open_row Kd.string Try.underlying29 (by kernel_rfl) (fun n cs y hy => by
    obtain ⟨s, rfl, _⟩ := DataW.trod_string Try.underlying9 hy
    exact ⟨s, rfl⟩) h
end Go.Proofs.Ytciiodbkhilkmaa.F

/- The row of ZoneAll: zone's functions and the reference's answer alike. -/
namespace Go.Proofs.Ytciiodbkhilkmaa.zoneAll
open Go.ChangeShapes Go.WideShapes Go.ChangeAt Go.RowKit Go.Proofs.Ytciiodbkhilkmaa.F
open Go.ChangeMaps (open_string shut_string)
set_option linter.unusedVariables false
theorem own : ownKnob Try.prog.godebug = none := by kernel_rfl
theorem laidOut : laidOutB Try.prog = true := by kernel_rfl
set_option maxRecDepth 100000 in
theorem lifted (os : Os) (started : os.Started) (H : Type) (enc : TypeId × Value → H) :
    ReturnsInHanded {} Try.checked os 12 .any (Rows.zoneAllSpec.pre6 enc Try.prog Try.f12 Rows.zoneAllRow.domain false) (Rows.zoneAllSpec.post enc Try.prog Try.f12 false true false false) := by
  refine returnsInHanded_of_change_sized (C := Try.checked) own started (by kernel_rfl) Try.func12
    (ChangeSpec.witness6 (enc := enc) (C := Try.checked) false ⟨#[], #[.slice none 0 0, .slice none 0 0, .string ByteArray.empty], []⟩ 8 (by kernel_rfl) (by kernel_rfl) (by kernel_rfl) (by kernel_rfl)) ?_
  intro W base args ds gs before hval0 hW hcnd hsz0 _
  have hval : ∀ (j : Nat) t v, Try.f12.params[j]? = some t → args[j]? = some v → Value.okWide Try.prog W .any base t v := hval0
  have hW' := hW
  obtain ⟨p, q, hA0, hV, rfl, hfz, hnd⟩ := hW
  have hA : DataW.TrodAll enc Try.prog W 0 (fun _ => true) true Try.f12.params.toList args.toList ds p := hA0
  rw [Try.params12] at hA hval
  obtain ⟨v0, vs0, d0, ds0, p0, q0, hargs, rfl, rfl, h0, r0⟩ := trodAll_cons hA
  obtain ⟨v1, vs1, d1, ds1, p1, q1, rfl, rfl, rfl, h1, r1⟩ := trodAll_cons r0
  obtain ⟨v2, vs2, d2, ds2, p2, q2, rfl, rfl, rfl, h2, r2⟩ := trodAll_cons r1
  obtain ⟨rfl, rfl, rfl⟩ := trodAll_nil r2
  obtain rfl : args = #[v0, v1, v2] := by cases args; simp_all
  obtain ⟨rfl, rfl⟩ := trodVars_none hV
  have k0 := h0
  have lt0 : ∀ x ∈ p0, x.block < W.heap.size := by obtain ⟨m, hm⟩ := k0; exact DataW.trod_lt m _ _ _ hm
  obtain ⟨a0, len0, cap0, rfl⟩ := okWide_slice Try.underlying29 (hval 0 29 v0 rfl rfl)
  obtain ⟨fuel0, hf0⟩ := h0
  obtain ⟨l0, rfl, c0, z0⟩ := open_strs hf0
  have k1 := h1
  have lt1 : ∀ x ∈ p1, x.block < W.heap.size := by obtain ⟨m, hm⟩ := k1; exact DataW.trod_lt m _ _ _ hm
  obtain ⟨a1, len1, cap1, rfl⟩ := okWide_slice Try.underlying29 (hval 1 29 v1 rfl rfl)
  obtain ⟨fuel1, hf1⟩ := h1
  obtain ⟨l1, rfl, c1, z1⟩ := open_strs hf1
  have k2 := h2
  have lt2 : ∀ x ∈ p2, x.block < W.heap.size := by obtain ⟨m, hm⟩ := k2; exact DataW.trod_lt m _ _ _ hm
  obtain ⟨a2, rfl, _, _, _⟩ := open_string Try.underlying9 (hval 2 9 v2 rfl rfl) h2
  clear hA0 hval0 hsz0
  obtain ⟨k, hk⟩ := (all_law l0 l1 a2).get
  refine (butterylaw08_ZoneAll.calls k a0 cap0 l0 a1 cap1 l1 a2 true W z0 c0 z1 c1 hk).mono fun e W' ⟨he, bel⟩ => ?_
  subst he
  exact ⟨_, rfl, _, _, _, [], _, [], hW', trodAll_mk1 (shut_bool Try.underlying4 _), (trodAll_cons_mk (Below.trod laidOut (by kernel_rfl) (of_decide_eq_true (by kernel_rfl)) k0 bel lt0) (trodAll_cons_mk (Below.trod laidOut (by kernel_rfl) (of_decide_eq_true (by kernel_rfl)) k1 bel lt1) (trodAll_cons_mk (Below.trod laidOut (by kernel_rfl) (of_decide_eq_true (by kernel_rfl)) k2 bel lt2) trodAll_mk0))), rfl, bel.frame _, fun h => by cases h⟩
theorem over : Rows.zoneAllRow.holds Try.pinned (OpenSpec.ofChange Rows.zoneAllSpec) :=
  OpenClaim.holds_of_wide 12 Try.f12 rfl rfl rfl rfl rfl rfl rfl ⟨rfl, rfl, rfl, rfl, rfl⟩ rfl rfl rfl rfl rfl (by kernel_rfl) Try.func12 (by kernel_rfl)
    (of_decide_eq_true (by kernel_rfl)) (by unfold Func.isWrapper; first | (rw [if_pos (by decide +kernel)]; kernel_rfl) | (rw [if_neg (by decide +kernel)]; exact ⟨rfl, rfl⟩))
    (fun os started H enc _ => lifted os started H enc)
theorem proved : Rows.ZoneAllSaid := over
#print axioms proved
end Go.Proofs.Ytciiodbkhilkmaa.zoneAll
namespace Go.Proofs.Ytciiodbkhilkmaa
/-- The row, under a short name, for the claim. -/
theorem zoneAll_holds : Rows.ZoneAllSaid := zoneAll.proved
end Go.Proofs.Ytciiodbkhilkmaa
