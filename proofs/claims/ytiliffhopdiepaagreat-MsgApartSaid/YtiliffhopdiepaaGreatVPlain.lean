/- Plain law: lists of texts as sets, sums of numbers, an item's field. No program in sight. -/
import Derived.Test.YtiliffhopdiepaaGreatVSortS
import Derived.Test.YtiliffhopdiepaaGreatE11
import Derived.Laws.BitsLemmas
namespace Go.E2.S
open Go Go.E2 Go.RowKit Go.Lib
open Go.E2.Lib (mkB mkB_bl sortB compB compact_le)
set_option linter.unusedVariables false
set_option linter.unusedSimpArgs false
/-- Rising, each once. -/
def onceL (l : List ByteArray) : List ByteArray := (Go.Lib.compact ((l.map bl).mergeSort fun x y => decide (x ≤ y))).map mkB
theorem once_eq (l : List ByteArray) : compB (sortB l) = onceL l := by
  unfold compB sortB onceL
  rw [List.map_map, show (bl ∘ mkB) = id from rfl, List.map_id]
def Up (l : List ByteArray) : Prop := l.Pairwise fun a b => bl a < bl b
theorem up_ext : ∀ {l m : List ByteArray}, Up l → Up m → (∀ x, x ∈ l ↔ x ∈ m) → l = m
  | [], [], _, _, _ => rfl
  | [], b :: m, _, _, h => absurd ((h b).2 (.head _)) (by simp)
  | a :: l, [], _, _, h => absurd ((h a).1 (.head _)) (by simp)
  | a :: l, b :: m, hl, hm, h => by
    obtain ⟨ha, hl'⟩ := List.pairwise_cons.1 hl
    obtain ⟨hb, hm'⟩ := List.pairwise_cons.1 hm
    have e : a = b := by
      rcases List.mem_cons.1 ((h a).1 (.head _)) with e | e
      · exact e
      rcases List.mem_cons.1 ((h b).2 (.head _)) with e' | e'
      · exact e'.symm
      exact absurd (List.lt_trans (hb _ e) (ha _ e')) (List.lt_irrefl _)
    subst e
    congr 1
    refine up_ext hl' hm' fun x => ⟨fun hx => ?_, fun hx => ?_⟩
    · rcases List.mem_cons.1 ((h x).1 (.tail _ hx)) with e | e
      · subst e
        exact absurd (ha _ hx) (List.lt_irrefl _)
      · exact e
    · rcases List.mem_cons.1 ((h x).2 (.tail _ hx)) with e | e
      · subst e
        exact absurd (hb _ hx) (List.lt_irrefl _)
      · exact e
theorem compact_up (d : Array (List UInt8)) (hs : ∀ i j, i < j → j < d.size → d[i]! ≤ d[j]!) : ∀ m, m ≤ d.size → (compactUpTo d m).Pairwise (· < ·) ∧ ∀ x, x ∈ compactUpTo d m ↔ ∃ j, j < m ∧ d[j]! = x
  | 0, _ => by simp [compactUpTo]
  | m + 1, hm => by
    obtain ⟨h1, h2⟩ := compact_up d hs m (by omega)
    rw [compactUpTo_succ]
    have hle : ∀ x ∈ compactUpTo d m, 0 < m ∧ x ≤ d[m - 1]! := fun x hx => by
      obtain ⟨j, hj, rfl⟩ := (h2 x).1 hx
      refine ⟨by omega, ?_⟩
      by_cases e : j = m - 1
      · rw [e]; exact List.le_refl _
      · exact hs _ _ (by omega) (by omega)
    by_cases hk : keeps d m = true
    · rw [if_pos hk]
      refine ⟨List.pairwise_append.2 ⟨h1, by simp, fun x hx y hy => ?_⟩, fun x => ?_⟩
      · obtain rfl := List.mem_singleton.1 hy
        obtain ⟨h0, hx'⟩ := hle x hx
        have hne : d[m - 1]! ≠ d[m]! := fun e => by
          rw [keeps_neg h0 e.symm] at hk
          exact absurd hk (by simp)
        exact Std.lt_of_le_of_lt hx' (blt_of (hs _ _ (by omega) (by omega)) hne)
      · rw [List.mem_append, h2, List.mem_singleton]
        constructor
        · rintro (⟨j, hj, e⟩ | rfl)
          · exact ⟨j, by omega, e⟩
          · exact ⟨m, by omega, rfl⟩
        · rintro ⟨j, hj, e⟩
          by_cases h : j = m
          · subst h; exact .inr e.symm
          · exact .inl ⟨j, by omega, e⟩
    · rw [if_neg hk, List.append_nil]
      refine ⟨h1, fun x => ?_⟩
      rw [h2]
      constructor
      · rintro ⟨j, hj, e⟩
        exact ⟨j, by omega, e⟩
      · rintro ⟨j, hj, e⟩
        by_cases h : j = m
        · subst h
          have h0 : 0 < j := by
            rcases Nat.eq_zero_or_pos j with e | e
            · subst e; exact absurd (by simp [keeps]) hk
            · exact e
          refine ⟨j - 1, by omega, ?_⟩
          rw [← e]
          exact Decidable.byContradiction fun c => hk (keeps_pos (fun e => c e.symm))
        · exact ⟨j, by omega, e⟩
theorem sorted_get (l : List (List UInt8)) : ∀ i j, i < j → j < ((l.mergeSort fun x y => decide (x ≤ y)).toArray).size → ((l.mergeSort fun x y => decide (x ≤ y)).toArray)[i]! ≤ ((l.mergeSort fun x y => decide (x ≤ y)).toArray)[j]! := by
  intro i j hij hj
  have h := List.pairwise_mergeSort (le := fun x y : List UInt8 => decide (x ≤ y)) (fun a b c h1 h2 => by
    simp only [decide_eq_true_eq] at *
    exact List.le_trans h1 h2) (fun a b => by
    simp only [Bool.or_eq_true, decide_eq_true_eq]
    exact List.le_total a b) l
  have h3 := List.pairwise_iff_getElem.1 h i j (by simp at hj ⊢; omega) (by simpa using hj) hij
  simp only [decide_eq_true_eq] at h3
  have hi : i < ((l.mergeSort fun x y => decide (x ≤ y)).toArray).size := by omega
  rw [getElem!_pos _ i hi, getElem!_pos _ j hj]
  simpa using h3
theorem onceL_up (l : List ByteArray) : Up (onceL l) := by
  unfold Up onceL
  rw [List.pairwise_map]
  exact (compact_up _ (sorted_get _) _ (by simp)).1
theorem onceL_mem (l : List ByteArray) (x : ByteArray) : x ∈ onceL l ↔ x ∈ l := by
  unfold onceL
  rw [List.mem_map]
  constructor
  · rintro ⟨a, ha, rfl⟩
    obtain ⟨j, hj, rfl⟩ := ((compact_up _ (sorted_get _) _ (by simp)).2 a).1 ha
    have hm : ((l.map bl).mergeSort fun x y => decide (x ≤ y)).toArray[j]! ∈ l.map bl := by
      rw [getElem!_pos _ j (by simpa using hj)]
      exact (List.mergeSort_perm _ _).mem_iff.1 (List.getElem_mem _)
    obtain ⟨y, hy, e⟩ := List.mem_map.1 hm
    rw [← e, mkB_bl]
    exact hy
  · intro hx
    refine ⟨bl x, ?_, mkB_bl x⟩
    refine ((compact_up _ (sorted_get _) _ (by simp)).2 _).2 ?_
    have hm : bl x ∈ (l.map bl).mergeSort fun x y => decide (x ≤ y) := (List.mergeSort_perm _ _).mem_iff.2 (List.mem_map_of_mem hx)
    obtain ⟨j, hj, e⟩ := List.getElem_of_mem hm
    exact ⟨j, hj, by rw [getElem!_pos _ j (by simpa using hj)]; simpa using e⟩
theorem onceL_eq {l m : List ByteArray} (hm : Up m) (h : ∀ x, x ∈ l ↔ x ∈ m) : onceL l = m := up_ext (onceL_up l) hm fun x => (onceL_mem l x).trans (h x)
theorem onceL_congr {l m : List ByteArray} (h : ∀ x, x ∈ l ↔ x ∈ m) : onceL l = onceL m := onceL_eq (onceL_up m) fun x => (h x).trans (onceL_mem m x).symm
theorem onceL_self {l : List ByteArray} (h : Up l) : onceL l = l := onceL_eq h fun _ => Iff.rfl
theorem Up.filter {l : List ByteArray} (h : Up l) (p : ByteArray → Bool) : Up (l.filter p) := List.Pairwise.filter _ h
theorem onceL_len (l : List ByteArray) : (onceL l).length ≤ l.length := by
  unfold onceL
  rw [List.length_map]
  refine Nat.le_trans (compact_le _) ?_
  simp

/-- Does a text stand behind the last one taken? -/
def aft (out : List ByteArray) (x : ByteArray) : Prop := out = [] ∨ bl (out.getLastD ByteArray.empty) < bl x
def InvO (out xs : List ByteArray) (b : ByteArray) (ok : Bool) : Prop :=
  (ok = false → ∀ x ∈ xs, ¬ aft out x) ∧ (ok = true → b ∈ xs ∧ aft out b ∧ ∀ x ∈ xs, aft out x → bl b ≤ bl x)
theorem InvO.take {out xs : List ByteArray} {b x : ByteArray} {ok : Bool} (h : InvO out xs b ok) (hx : aft out x) (hl : ok = true → bl x < bl b) : InvO out (xs ++ [x]) x true := by
  refine ⟨fun c => by simp at c, fun _ => ⟨by simp, hx, fun y hy ha => ?_⟩⟩
  rcases List.mem_append.1 hy with hy | hy
  · cases ok with
    | true => exact List.le_trans (List.le_of_lt (hl rfl)) ((h.2 rfl).2.2 y hy ha)
    | false => exact absurd ha (h.1 rfl y hy)
  · rw [List.mem_singleton.1 hy]; exact List.le_refl _
theorem InvO.pass {out xs : List ByteArray} {b x : ByteArray} {ok : Bool} (h : InvO out xs b ok) (hx : aft out x → ok = true ∧ ¬ bl x < bl b) : InvO out (xs ++ [x]) b ok := by
  refine ⟨fun c y hy => ?_, fun c => ⟨List.mem_append_left _ (h.2 c).1, (h.2 c).2.1, fun y hy ha => ?_⟩⟩
  · rcases List.mem_append.1 hy with hy | hy
    · exact h.1 c y hy
    · rw [List.mem_singleton.1 hy]
      intro ha
      have := (hx ha).1
      rw [c] at this
      exact absurd this (by simp)
  · rcases List.mem_append.1 hy with hy | hy
    · exact (h.2 c).2.2 y hy ha
    · obtain rfl := List.mem_singleton.1 hy
      exact List.not_lt.1 (hx ha).2
theorem aft_iff {S : List ByteArray} (hS : Up S) (m : Nat) {x : ByteArray} (hx : x ∈ S) : aft (S.take m) x ↔ x ∈ S.drop m := by
  have e := List.take_append_drop m S
  have hp := List.pairwise_append.1 (show (S.take m ++ S.drop m).Pairwise _ from e ▸ hS)
  have hx' : x ∈ S.take m ∨ x ∈ S.drop m := List.mem_append.1 (by rw [e]; exact hx)
  by_cases c : S.take m = []
  · constructor
    · intro _
      rcases hx' with h | h
      · rw [c] at h; exact absurd h (by simp)
      · exact h
    · exact fun _ => .inl c
  · have hlast : (S.take m).getLastD ByteArray.empty = (S.take m).getLast c := by rw [List.getLastD_eq_getLast?, List.getLast?_eq_some_getLast c]; rfl
    have hm := List.getLast_mem c
    constructor
    · rintro (h | h)
      · exact absurd h c
      rcases hx' with h2 | h2
      · rw [hlast] at h
        exfalso
        have ha := (List.dropLast_concat_getLast c).symm
        have hp1 := hp.1
        generalize (S.take m).getLast c = y at *
        rw [ha] at h2 hp1
        rcases List.mem_append.1 h2 with h2 | h2
        · exact List.lt_irrefl _ (List.lt_trans h ((List.pairwise_append.1 hp1).2.2 x h2 y (.head _)))
        · rw [List.mem_singleton.1 h2] at h
          exact List.lt_irrefl _ h
      · exact h2
    · intro h
      exact .inr (hlast ▸ hp.2.2 _ hm x h)
/-- A number of int64. -/
def I64 (x : Int) : Prop := -9223372036854775808 ≤ x ∧ x ≤ 9223372036854775807
/-- A dot's, an item's numbers are such as Go's types have. -/
def WfD (x : Dot) : Prop := I64 x.f0 ∧ I64 x.f1 ∧ I64 x.f2
def WfI (x : Item) : Prop := I64 x.f2 ∧ I64 x.f4 ∧ I64 x.f5.f0 ∧ I64 x.f5.f1 ∧ I64 x.f5.f2
/-- What the total of a list is: its sum, or too great. -/
def tot (s : Int) : Int × Int := if -9223372036854775808 ≤ s ∧ s ≤ 9223372036854775807 then (s, 0) else (0, 5)
theorem sum_take (l : List Int) (i : Nat) (h : i < l.length) : (l.take (i + 1)).sum = (l.take i).sum + l[i] := by
  rw [List.take_succ_eq_append_getElem h, List.sum_append]; simp
theorem i64_at (l : List Int) (hw : ∀ x ∈ l, I64 x) (i : Nat) (h : i < l.length) : I64 l[i] := hw _ (List.getElem_mem h)
theorem sum_perm {l m : List Int} (h : l.Perm m) : l.sum = m.sum := by
  induction h with
  | nil => rfl
  | cons x _ ih => simp [ih]
  | swap x y l => simp only [List.sum_cons]; omega
  | trans _ _ i j => exact i.trans j
theorem sum_nonneg (l : List Int) (h : ∀ x ∈ l, 0 < x ∧ x ≤ 9223372036854775807) : 0 ≤ l.sum := by
  induction l with
  | nil => simp
  | cons x l ih =>
    have h1 := h x (by simp)
    have h2 := ih (fun y hy => h y (by simp [hy]))
    simp only [List.sum_cons]; omega

theorem sum_nonpos (l : List Int) (h : ∀ x ∈ l, x < 0 ∧ -9223372036854775808 ≤ x) : l.sum ≤ 0 := by
  induction l with
  | nil => simp
  | cons x l ih =>
    have h1 := h x (by simp)
    have h2 := ih (fun y hy => h y (by simp [hy]))
    simp only [List.sum_cons]; omega

theorem tot_in (s : Int) (h0 : -9223372036854775808 ≤ s) (h1 : s ≤ 9223372036854775807) : tot s = (s, 0) := by
  unfold tot; rw [if_pos ⟨h0, h1⟩]

theorem tot_out (s : Int) (h : s < -9223372036854775808 ∨ 9223372036854775807 < s) : tot s = (0, 5) := by
  unfold tot; rw [if_neg (by omega)]

theorem and_mask (x : Int) (_h0 : -9223372036854775808 ≤ x) (_h1 : x ≤ 9223372036854775807) : andI .i64 x 4294967295 = x % 4294967296 := by
  have hm : (BitVec.ofInt 64 (4294967295 : Int)).toNat = 2 ^ 32 - 1 := by decide
  have hx : (BitVec.ofInt 64 x).toNat = (x % 18446744073709551616).toNat := by rw [BitVec.toNat_ofInt]; rfl
  show IntKind.i64.wrap ((BitVec.ofInt 64 x &&& BitVec.ofInt 64 4294967295).toNat : Int) = _
  rw [BitVec.toNat_and, hm, hx, Nat.and_two_pow_sub_one_eq_mod, IntKind.wrap_i64]
  have h2 : (2 : Nat) ^ 32 = 4294967296 := by decide
  rw [h2]
  omega
theorem or_join (h y : Int) (h0 : -2147483648 ≤ h) (h1 : h < 2147483648) (y0 : 0 ≤ y) (y1 : y < 4294967296) : orI .i64 (h * 4294967296) y = h * 4294967296 + y := by
  have h2 : (2 : Nat) ^ 32 = 4294967296 := by decide
  have h3 : ((2 ^ 64 : Nat) : Int) = 18446744073709551616 := by decide
  have hx : (BitVec.ofInt 64 (h * 4294967296)).toNat = 2 ^ 32 * (h % 4294967296).toNat := by
    rw [BitVec.toNat_ofInt, h2, h3]; omega
  have hy : (BitVec.ofInt 64 y).toNat = y.toNat := by
    rw [BitVec.toNat_ofInt, h3]; omega
  show IntKind.i64.wrap ((BitVec.ofInt 64 (h * 4294967296) ||| BitVec.ofInt 64 y).toNat : Int) = _
  rw [BitVec.toNat_or, hx, hy, ← Nat.two_pow_add_eq_or_of_lt (by rw [h2]; omega), IntKind.wrap_i64, h2]
  omega
theorem fdiv32 (x : Int) : x.fdiv 4294967296 = x / 4294967296 := Int.fdiv_eq_ediv_of_nonneg x (by omega)
/-! ### A field of items -/
/-- What the items that are chosen hold. -/
def pick {α β : Type} (p : α → Bool) (g : α → β) (l : List α) : List β := (l.filter p).map g
theorem pick_nil {α β : Type} (p : α → Bool) (g : α → β) : pick p g [] = [] := rfl
theorem pick_pos {α β : Type} {p : α → Bool} {g : α → β} {x : α} {l : List α} (h : p x = true) : pick p g (x :: l) = g x :: pick p g l := by
  unfold pick; rw [List.filter_cons_of_pos h, List.map_cons]
theorem pick_neg {α β : Type} {p : α → Bool} {g : α → β} {x : α} {l : List α} (h : p x = false) : pick p g (x :: l) = pick p g l := by
  unfold pick; rw [List.filter_cons_of_neg (by simp [h])]
theorem pick_len {α β : Type} (p : α → Bool) (g : α → β) (l : List α) : (pick p g l).length ≤ l.length := by
  unfold pick; rw [List.length_map]; exact List.length_filter_le _ _
def inKey (key : ByteArray) (x : Item) : Bool := decide (x.f0 = key)
def inField (key fld : ByteArray) (x : Item) : Bool := decide (x.f0 = key) && decide (x.f1 = fld)
def sel (key fld : ByteArray) (kd : Int) (x : Item) : Bool := inField key fld x && decide (x.f2 = kd)
def finV (e r : List ByteArray) (c : List Int) : Val := ⟨onceL e, onceL r, (tot c.sum).1, !decide ((tot c.sum).2 = 0)⟩
def fieldV (l : List Item) (key fld : ByteArray) : Val :=
  finV (pick (sel key fld 1) Item.f3 l) (pick (sel key fld 2) Item.f3 l) (pick (sel key fld 3) Item.f4 l)
theorem fieldV_len (l : List Item) (key fld : ByteArray) : (fieldV l key fld).f0.length ≤ l.length ∧ (fieldV l key fld).f1.length ≤ l.length := by
  have h1 := onceL_len (pick (sel key fld 1) Item.f3 l)
  have h2 := onceL_len (pick (sel key fld 2) Item.f3 l)
  have h3 := pick_len (sel key fld 1) Item.f3 l
  have h4 := pick_len (sel key fld 2) Item.f3 l
  exact ⟨Nat.le_trans h1 h3, Nat.le_trans h2 h4⟩
def fieldsL (l : List Item) (key : ByteArray) : List ByteArray := onceL (pick (inKey key) Item.f1 l)
theorem fieldsL_len (l : List Item) (key : ByteArray) : (fieldsL l key).length ≤ l.length := Nat.le_trans (onceL_len _) (pick_len _ _ _)
end Go.E2.S
