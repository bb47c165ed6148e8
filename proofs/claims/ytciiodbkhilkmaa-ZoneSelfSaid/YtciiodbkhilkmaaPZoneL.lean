/- Chapter 08, without the reference: a list's one form again, two zones within each other, a zone with itself and with nothing. -/
import Derived.Test.YtciiodbkhilkmaaPZone
import Derived.Test.YtciiodbkhilkmaaF22
import Derived.Test.YtciiodbkhilkmaaF23
import Derived.Test.YtciiodbkhilkmaaF32
namespace Go.Proofs.Ytciiodbkhilkmaa.F
set_option linter.unusedVariables false
set_option linter.unusedSimpArgs false
open Go.RowKit Go.Proofs.YtciiodbkhilkmaaW.PrintWords Go.Proofs.YtciiodbkhilkmaaW.PrintLast Go.Proofs.YtciiodbkhilkmaaW.PrintMore
/-- The texts of a list that begin with no other one, rising. -/
def mins (l : List ByteArray) : List ByteArray := (onceL l).filter (minB l)
theorem mins_up (l : List ByteArray) : Up (mins l) := (onceL_up l).filter _
theorem mins_mem {l : List ByteArray} {x : ByteArray} : x ∈ mins l ↔ x ∈ l ∧ minB l x = true := by unfold mins; rw [List.mem_filter, onceL_mem]
theorem mins_congr {l m : List ByteArray} (h : ∀ x, x ∈ l ↔ x ∈ m) : mins l = mins m := by
  unfold mins
  rw [onceL_congr h, show minB l = minB m from funext (minB_congr h)]
theorem mins_covers (l : List ByteArray) (k : ByteArray) : coversL (mins l) k = coversL l k := by
  unfold mins
  rw [← show minB (onceL l) = minB l from funext (minB_congr (onceL_mem l)), covers_min]
  exact covers_congr (onceL_mem l) k
theorem mins_of {l : List ByteArray} (hu : Up l) (hm : ∀ p ∈ l, minB l p = true) : mins l = l := by
  unfold mins
  rw [onceL_self hu, List.filter_eq_self.2 hm]
theorem mins_mins (l : List ByteArray) : mins (mins l) = mins l := mins_of (mins_up l) fun p hp => minB_iff.2 fun q hq h => minB_iff.1 (mins_mem.1 hp).2 q (mins_mem.1 hq).1 h
theorem normZ_eq (l : List ByteArray) : normZ l = if l.all pfx = true then endZ (mins l) else ([], 2) := rfl
theorem normZ_ok {l : List ByteArray} (h : (normZ l).2 = 0) : (∀ p ∈ l, pfx p = true) ∧ (mins l).length ≤ 8 ∧ normZ l = (mins l, 0) := by
  rw [normZ_eq] at h ⊢
  by_cases c : l.all pfx = true
  · rw [if_pos c] at h ⊢
    unfold endZ at h ⊢
    by_cases c2 : (mins l).length > 8
    · rw [if_pos c2] at h; exact absurd h (by decide)
    · rw [if_neg c2]; exact ⟨List.all_eq_true.1 c, by omega, rfl⟩
  · rw [if_neg c] at h; exact absurd h (by decide)
theorem normZ_of {l : List ByteArray} (h1 : ∀ p ∈ l, pfx p = true) (h2 : (mins l).length ≤ 8) : normZ l = (mins l, 0) := by
  rw [normZ_eq, if_pos (List.all_eq_true.2 h1)]
  unfold endZ
  rw [if_neg (by omega)]
theorem normZ_bad {l : List ByteArray} (h : (normZ l).2 ≠ 0) : (normZ l).1 = [] := by
  rw [normZ_eq] at h ⊢
  by_cases c : l.all pfx = true
  · rw [if_pos c] at h ⊢
    unfold endZ at h ⊢
    by_cases c2 : (mins l).length > 8
    · rw [if_pos c2]
    · rw [if_neg c2] at h; exact absurd rfl h
  · rw [if_neg c]
theorem normZ_again {l : List ByteArray} (h : (normZ l).2 = 0) : normZ (normZ l).1 = normZ l := by
  obtain ⟨h1, h2, h3⟩ := normZ_ok h
  rw [h3]
  show normZ (mins l) = _
  rw [normZ_of (fun p hp => h1 p (mins_mem.1 hp).1) (by rw [mins_mins]; exact h2), mins_mins]
theorem right_iff {l : List ByteArray} : rightB l = true ↔ (∀ p ∈ l, pfx p = true) ∧ mins l = l ∧ l.length ≤ 8 := by
  unfold rightB
  rw [decide_eq_true_iff]
  constructor
  · rintro ⟨h, e⟩
    obtain ⟨h1, h2, h3⟩ := normZ_ok h
    rw [h3] at e
    have e : mins l = l := e
    exact ⟨h1, e, e ▸ h2⟩
  · rintro ⟨h1, h2, h3⟩
    rw [normZ_of h1 (by rw [h2]; exact h3)]
    exact ⟨rfl, h2⟩
theorem right_min {l : List ByteArray} (h : mins l = l) : Up l ∧ ∀ p ∈ l, ∀ q ∈ l, hasP q p = true → q = p := by
  refine ⟨h ▸ mins_up l, fun p hp => ?_⟩
  rw [← h] at hp
  exact minB_iff.1 (mins_mem.1 hp).2
def withinB (a b : List ByteArray) : Bool := !a.any fun p => !coversL b p
theorem within_val (a b : List ByteArray) : zone_Within.f a b = some (withinB a b) := rfl
theorem within_iff {a b : List ByteArray} : withinB a b = true ↔ ∀ p ∈ a, ∃ q ∈ b, hasP q p = true := by
  unfold withinB
  rw [Bool.not_eq_true', List.any_eq_false]
  constructor
  · intro h p hp
    have := h p hp
    simp only [Bool.not_eq_true', Bool.not_eq_false] at this
    exact covers_iff.1 this
  · intro h p hp
    simp [covers_iff.2 (h p hp)]

theorem awake_norm : normZ [(⟨#[97, 47, 98]⟩ : ByteArray), (⟨#[99]⟩ : ByteArray), (⟨#[97]⟩ : ByteArray)] = ([(⟨#[97]⟩ : ByteArray), (⟨#[99]⟩ : ByteArray)], 0) := by
  unfold normZ
  rw [onceL_eq (m := [(⟨#[97]⟩ : ByteArray), (⟨#[97, 47, 98]⟩ : ByteArray), (⟨#[99]⟩ : ByteArray)]) (by unfold Up; simp [bl]; decide) (fun x => by simp only [List.mem_cons, List.not_mem_nil, or_false]; grind)]
  rfl
theorem awake_ev : Ev (fun k => butterylaw08_awake.f k) true := by
  unfold butterylaw08_awake.f
  refine Ev.bind (norm_ev _ (by decide)) ?_
  rw [awake_norm]
  refine Ev.pos rfl (Ev.bind (same_ev _ _ (by decide)) ?_)
  refine Ev.pos (by decide) (Ev.bind (right_ev _ (by decide)) ?_)
  have hr : rightB [(⟨#[97]⟩ : ByteArray), (⟨#[99]⟩ : ByteArray)] = true := by
    have := normZ_again (l := [(⟨#[97, 47, 98]⟩ : ByteArray), (⟨#[99]⟩ : ByteArray), (⟨#[97]⟩ : ByteArray)]) (by rw [awake_norm])
    rw [awake_norm] at this
    unfold rightB
    rw [show normZ [(⟨#[97]⟩ : ByteArray), (⟨#[99]⟩ : ByteArray)] = _ from this]
    rfl
  exact Ev.pos hr (Ev.bindc (v := true) rfl (Ev.const _))

theorem covers_law (l : List ByteArray) (key : ByteArray) : Ev (fun k => butterylaw08_ZoneCovers.f k l key) true := by
  unfold butterylaw08_ZoneCovers.f
  refine Ev.bind awake_ev (Ev.pos rfl (Ev.bind (short_ev l) ?_))
  by_cases hs : shortB l = true
  rotate_left
  · exact Ev.neg hs (Ev.succ (by simp only [butterylaw08_ZoneCovers.j0]; exact Ev.pos (by simp) (Ev.const _)))
  refine Ev.pos hs (Ev.succ ?_)
  have hl := (short_iff.1 hs).1
  simp only [butterylaw08_ZoneCovers.j0]
  by_cases hk : decide ((key.size : Int) > 200) = true
  · exact Ev.pos hk (Ev.const _)
  refine Ev.neg hk (Ev.bind (norm_ev l (by omega)) ?_)
  have h8 := normZ_len l
  by_cases he : (normZ l).2 = 0
  · refine Ev.pos he (Ev.bind (norm_ev _ (by omega)) (Ev.bindc (v := coversL (normZ l).1 key) rfl (Ev.bindc (v := coversL l key) rfl ?_)))
    have hc : coversL (normZ l).1 key = coversL l key := by rw [(normZ_ok he).2.2]; exact mins_covers l key
    rw [normZ_again he, hc]
    refine Ev.pos (by simp) (Ev.pos he (Ev.bind (same_ev _ _ (by omega)) (Ev.pos (by simp) (Ev.bind (right_ev _ (by omega)) ?_))))
    refine Ev.pos ?_ (Ev.eq (Ev.const _) (by simp; omega))
    unfold rightB
    rw [normZ_again he]
    simp [he]
  · refine Ev.neg he (Ev.eq (Ev.const _) ?_)
    rw [normZ_bad he]
    rfl
theorem one_law (a b : List ByteArray) : Ev (fun k => butterylaw08_ZoneOne.f k a b) true := by
  unfold butterylaw08_ZoneOne.f
  have out : Ev (fun k => butterylaw08_ZoneOne.j0 k a b true) true := Ev.succ (by simp only [butterylaw08_ZoneOne.j0]; exact Ev.pos (by simp) (Ev.const _))
  refine Ev.bind awake_ev (Ev.pos rfl (Ev.bind (short_ev a) ?_))
  by_cases ha : shortB a = true
  rotate_left
  · exact Ev.neg ha out
  refine Ev.pos ha (Ev.bind (short_ev b) ?_)
  by_cases hb : shortB b = true
  rotate_left
  · exact Ev.neg hb out
  have la := (short_iff.1 ha).1
  have lb := (short_iff.1 hb).1
  refine Ev.pos hb (Ev.bind (right_ev a (by omega)) ?_)
  by_cases ra : rightB a = true
  rotate_left
  · exact Ev.neg ra out
  refine Ev.pos ra (Ev.bind (right_ev b (by omega)) ?_)
  by_cases rb : rightB b = true
  rotate_left
  · rw [Bool.eq_false_iff.2 rb]; exact out
  rw [rb]
  refine Ev.succ ?_
  simp only [butterylaw08_ZoneOne.j0]
  refine Ev.neg (by simp) (Ev.bindc (within_val a b) ?_)
  obtain ⟨ua, ma⟩ := right_min (right_iff.1 ra).2.1
  obtain ⟨ub, mb⟩ := right_min (right_iff.1 rb).2.1
  have refl : ∀ l, withinB l l = true := fun l => within_iff.2 fun p hp => ⟨p, hp, hasP_refl p⟩
  have sub : ∀ {x y : List ByteArray}, (∀ p ∈ x, ∀ q ∈ x, hasP q p = true → q = p) → withinB x y = true → withinB y x = true → ∀ p ∈ x, p ∈ y := fun mx h1 h2 p hp => by
    obtain ⟨q, hq, e⟩ := within_iff.1 h1 p hp
    obtain ⟨r, hr, e2⟩ := within_iff.1 h2 q hq
    obtain rfl := mx p hp r hr (hasP_trans e2 e)
    obtain rfl := hasP_anti e e2
    exact hq
  by_cases w1 : withinB a b = true
  · refine Ev.pos w1 (Ev.bindc (within_val b a) (Ev.bind (same_ev a b (by omega)) (Ev.eq (Ev.const _) ?_)))
    by_cases w2 : withinB b a = true
    · have e : a = b := up_ext ua ub fun x => ⟨sub ma w1 w2 x, sub mb w2 w1 x⟩
      rw [w2]
      simp [e]
    · have e : a ≠ b := fun e => w2 (e ▸ refl a)
      rw [Bool.eq_false_iff.2 w2]
      simp [e]
  · refine Ev.neg w1 (Ev.bind (same_ev a b (by omega)) (Ev.eq (Ev.const _) ?_))
    have e : a ≠ b := fun e => w1 (e ▸ refl a)
    simp [e]
theorem self_law (z : List ByteArray) : Ev (fun k => butterylaw08_ZoneSelf.f k z) true := by
  unfold butterylaw08_ZoneSelf.f
  have out : Ev (fun k => butterylaw08_ZoneSelf.j0 k z true) true := Ev.succ (by simp only [butterylaw08_ZoneSelf.j0]; exact Ev.pos (by simp) (Ev.const _))
  refine Ev.bind awake_ev (Ev.pos rfl (Ev.bind (short_ev z) ?_))
  by_cases ha : shortB z = true
  rotate_left
  · exact Ev.neg ha out
  have la := (short_iff.1 ha).1
  refine Ev.pos ha (Ev.bind (right_ev z (by omega)) ?_)
  by_cases ra : rightB z = true
  rotate_left
  · rw [Bool.eq_false_iff.2 ra]; exact out
  rw [ra]
  refine Ev.succ ?_
  simp only [butterylaw08_ZoneSelf.j0]
  obtain ⟨hp, hm, h8⟩ := right_iff.1 ra
  obtain ⟨uz, mz⟩ := right_min hm
  have nz : normZ z = (z, 0) := by rw [normZ_of hp (by rw [hm]; exact h8), hm]
  have n1 : normZ (z ++ z) = (z, 0) := by
    have e : mins (z ++ z) = z := by rw [mins_congr (m := z) (by simp), hm]
    rw [normZ_of (by simpa using hp) (by rw [e]; exact h8), e]
  have n2 : normZ (z ++ []) = (z, 0) := by rw [List.append_nil]; exact nz
  have e1 : interL z z = z := onceL_eq uz fun x => by
    simp only [List.mem_flatMap, both]
    constructor
    · rintro ⟨p, h1, q, h2, h3⟩
      split at h3
      · obtain rfl := List.mem_singleton.1 h3; exact h1
      · split at h3
        · obtain rfl := List.mem_singleton.1 h3; exact h2
        · exact absurd h3 (by simp)
    · intro hx
      exact ⟨x, hx, x, hx, by rw [if_pos (hasP_refl x)]; simp⟩
  have e2 : interL z [] = [] := by
    have : z.flatMap (fun p => ([] : List ByteArray).flatMap (both p)) = [] := by simp
    unfold interL
    rw [this]
    exact onceL_eq List.Pairwise.nil (by simp)
  have e3 : onceL (z.filter fun p => !coversL z p) = [] := onceL_eq List.Pairwise.nil fun x => by
    rw [List.mem_filter]
    simp only [List.not_mem_nil, iff_false, not_and, Bool.not_eq_true', Bool.not_eq_false]
    exact fun hx => covers_iff.2 ⟨x, hx, hasP_refl x⟩
  have e4 : onceL (z.filter fun p => !coversL [] p) = z := by
    rw [List.filter_eq_self.2 (by intro x _; rfl)]
    exact onceL_self uz
  refine Ev.neg (by simp) (Ev.bind (union_ev z z (by omega) (by omega)) (Ev.bind (union_ev z [] (by omega) (by simp)) ?_))
  rw [n1, n2]
  refine Ev.pos rfl (Ev.pos rfl (Ev.bind (same_ev _ _ (by show z.length < _; omega)) (Ev.pos (by simp) (Ev.bind (same_ev _ _ (by show z.length < _; omega)) (Ev.pos (by simp) (Ev.bind (inter_ev z z (by omega) (by omega)) ?_))))))
  rw [e1]
  refine Ev.bind (same_ev _ _ (by omega)) (Ev.pos (by simp) (Ev.bindc (without_val z z (by omega)) ?_))
  rw [e3]
  refine Ev.pos rfl (Ev.bind (inter_ev z [] (by omega) (by simp)) ?_)
  rw [e2]
  refine Ev.pos rfl (Ev.bindc (without_val z [] (by omega)) ?_)
  rw [e4]
  exact Ev.bind (same_ev _ _ (by omega)) (Ev.pos (by simp) (Ev.bindc (v := true) rfl (Ev.const _)))
end Go.Proofs.Ytciiodbkhilkmaa.F
