/- Chapter 08: the texts of a list that begin with no other one; a list's one form again; zones within each other; awake. -/
import Derived.Test.YtciiodbkhilkmaaPZone
namespace Go.Proofs.Ytciiodbkhilkmaa.F
set_option linter.unusedVariables false
set_option linter.unusedSimpArgs false
open Go.RowKit Go.Proofs.YtciiodbkhilkmaaW.PrintWords Go.Proofs.YtciiodbkhilkmaaW.PrintLast Go.Proofs.YtciiodbkhilkmaaW.PrintMore
/-- The texts of a list that begin with no other one, rising. -/
def mins (l : List ByteArray) : List ByteArray := (onceL l).filter (minB l)
theorem mins_up (l : List ByteArray) : Up (mins l) := (onceL_up l).filter _
theorem mins_mem {l : List ByteArray} {x : ByteArray} : x ∈ mins l ↔ x ∈ l ∧ minB l x = true := by unfold mins; rw [List.mem_filter, onceL_mem]
theorem mins_congr {l m : List ByteArray} (h : ∀ x, x ∈ l ↔ x ∈ m) : mins l = mins m := by
  unfold mins
  rw [onceL_congr h, show minB l = minB m from funext (minB_congr h)]
theorem mins_covers (l : List ByteArray) (k : ByteArray) : coversL (mins l) k = coversL l k := by
  unfold mins
  rw [← show minB (onceL l) = minB l from funext (minB_congr (onceL_mem l)), covers_min]
  exact covers_congr (onceL_mem l) k
theorem mins_of {l : List ByteArray} (hu : Up l) (hm : ∀ p ∈ l, minB l p = true) : mins l = l := by
  unfold mins
  rw [onceL_self hu, List.filter_eq_self.2 hm]
theorem mins_mins (l : List ByteArray) : mins (mins l) = mins l := mins_of (mins_up l) fun p hp => minB_iff.2 fun q hq h => minB_iff.1 (mins_mem.1 hp).2 q (mins_mem.1 hq).1 h
theorem normZ_eq (l : List ByteArray) : normZ l = if l.all pfx = true then endZ (mins l) else ([], 2) := rfl
theorem normZ_ok {l : List ByteArray} (h : (normZ l).2 = 0) : (∀ p ∈ l, pfx p = true) ∧ (mins l).length ≤ 8 ∧ normZ l = (mins l, 0) := by
  rw [normZ_eq] at h ⊢
  by_cases c : l.all pfx = true
  · rw [if_pos c] at h ⊢
    unfold endZ at h ⊢
    by_cases c2 : (mins l).length > 8
    · rw [if_pos c2] at h; exact absurd h (by decide)
    · rw [if_neg c2]; exact ⟨List.all_eq_true.1 c, by omega, rfl⟩
  · rw [if_neg c] at h; exact absurd h (by decide)
theorem normZ_of {l : List ByteArray} (h1 : ∀ p ∈ l, pfx p = true) (h2 : (mins l).length ≤ 8) : normZ l = (mins l, 0) := by
  rw [normZ_eq, if_pos (List.all_eq_true.2 h1)]
  unfold endZ
  rw [if_neg (by omega)]
theorem normZ_bad {l : List ByteArray} (h : (normZ l).2 ≠ 0) : (normZ l).1 = [] := by
  rw [normZ_eq] at h ⊢
  by_cases c : l.all pfx = true
  · rw [if_pos c] at h ⊢
    unfold endZ at h ⊢
    by_cases c2 : (mins l).length > 8
    · rw [if_pos c2]
    · rw [if_neg c2] at h; exact absurd rfl h
  · rw [if_neg c]
theorem normZ_again {l : List ByteArray} (h : (normZ l).2 = 0) : normZ (normZ l).1 = normZ l := by
  obtain ⟨h1, h2, h3⟩ := normZ_ok h
  rw [h3]
  show normZ (mins l) = _
  rw [normZ_of (fun p hp => h1 p (mins_mem.1 hp).1) (by rw [mins_mins]; exact h2), mins_mins]
theorem right_iff {l : List ByteArray} : rightB l = true ↔ (∀ p ∈ l, pfx p = true) ∧ mins l = l ∧ l.length ≤ 8 := by
  unfold rightB
  rw [decide_eq_true_iff]
  constructor
  · rintro ⟨h, e⟩
    obtain ⟨h1, h2, h3⟩ := normZ_ok h
    rw [h3] at e
    have e : mins l = l := e
    exact ⟨h1, e, e ▸ h2⟩
  · rintro ⟨h1, h2, h3⟩
    rw [normZ_of h1 (by rw [h2]; exact h3)]
    exact ⟨rfl, h2⟩
theorem right_min {l : List ByteArray} (h : mins l = l) : Up l ∧ ∀ p ∈ l, ∀ q ∈ l, hasP q p = true → q = p := by
  refine ⟨h ▸ mins_up l, fun p hp => ?_⟩
  rw [← h] at hp
  exact minB_iff.1 (mins_mem.1 hp).2
def withinB (a b : List ByteArray) : Bool := !a.any fun p => !coversL b p
theorem within_val (a b : List ByteArray) : zone_Within.f a b = some (withinB a b) := rfl
theorem within_iff {a b : List ByteArray} : withinB a b = true ↔ ∀ p ∈ a, ∃ q ∈ b, hasP q p = true := by
  unfold withinB
  rw [Bool.not_eq_true', List.any_eq_false]
  constructor
  · intro h p hp
    have := h p hp
    simp only [Bool.not_eq_true', Bool.not_eq_false] at this
    exact covers_iff.1 this
  · intro h p hp
    simp [covers_iff.2 (h p hp)]

theorem awake_norm : normZ [(⟨#[97, 47, 98]⟩ : ByteArray), (⟨#[99]⟩ : ByteArray), (⟨#[97]⟩ : ByteArray)] = ([(⟨#[97]⟩ : ByteArray), (⟨#[99]⟩ : ByteArray)], 0) := by
  unfold normZ
  rw [onceL_eq (m := [(⟨#[97]⟩ : ByteArray), (⟨#[97, 47, 98]⟩ : ByteArray), (⟨#[99]⟩ : ByteArray)]) (by unfold Up; simp [bl]; decide) (fun x => by simp only [List.mem_cons, List.not_mem_nil, or_false]; grind)]
  rfl
theorem awake_ev : Ev (fun k => butterylaw08_awake.f k) true := by
  unfold butterylaw08_awake.f
  refine Ev.bind (norm_ev _ (by decide)) ?_
  rw [awake_norm]
  refine Ev.pos rfl (Ev.bind (same_ev _ _ (by decide)) ?_)
  refine Ev.pos (by decide) (Ev.bind (right_ev _ (by decide)) ?_)
  have hr : rightB [(⟨#[97]⟩ : ByteArray), (⟨#[99]⟩ : ByteArray)] = true := by
    have := normZ_again (l := [(⟨#[97, 47, 98]⟩ : ByteArray), (⟨#[99]⟩ : ByteArray), (⟨#[97]⟩ : ByteArray)]) (by rw [awake_norm])
    rw [awake_norm] at this
    unfold rightB
    rw [show normZ [(⟨#[97]⟩ : ByteArray), (⟨#[99]⟩ : ByteArray)] = _ from this]
    rfl
  exact Ev.pos hr (Ev.bindc (v := true) rfl (Ev.const _))
end Go.Proofs.Ytciiodbkhilkmaa.F
