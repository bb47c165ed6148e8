/- Chapter 08, without the reference: what two zones cover together, what both have, what is left of one. -/
import Derived.Test.YtciiodbkhilkmaaPMins
import Derived.Test.YtciiodbkhilkmaaF31
namespace Go.Proofs.Ytciiodbkhilkmaa.F
set_option linter.unusedVariables false
set_option linter.unusedSimpArgs false
open Go.RowKit Go.Proofs.YtciiodbkhilkmaaW.PrintWords Go.Proofs.YtciiodbkhilkmaaW.PrintLast Go.Proofs.YtciiodbkhilkmaaW.PrintMore
theorem laws_inter_mem {a b : List ByteArray} {x : ByteArray} : x ∈ interL a b ↔ (x ∈ a ∧ coversL b x = true) ∨ (x ∈ b ∧ coversL a x = true) := by
  unfold interL
  rw [onceL_mem]
  simp only [List.mem_flatMap, both, covers_iff]
  constructor
  · rintro ⟨p, h1, q, h2, h3⟩
    split at h3
    · rename_i h; obtain rfl := List.mem_singleton.1 h3; exact .inl ⟨h1, q, h2, h⟩
    · split at h3
      · rename_i h; obtain rfl := List.mem_singleton.1 h3; exact .inr ⟨h2, p, h1, h⟩
      · exact absurd h3 (by simp)
  · rintro (⟨h1, q, h2, h⟩ | ⟨h1, p, h2, h⟩)
    · exact ⟨x, h1, q, h2, by rw [if_pos h]; simp⟩
    · refine ⟨p, h2, x, h1, ?_⟩
      by_cases c : hasP x p = true
      · rw [if_pos c, hasP_anti h c]; simp
      · rw [if_neg c, if_pos h]; simp
theorem laws_inter_covers (a b : List ByteArray) (key : ByteArray) : coversL (interL a b) key = (coversL a key && coversL b key) := by
  rw [Bool.eq_iff_iff, Bool.and_eq_true, covers_iff, covers_iff, covers_iff]
  constructor
  · rintro ⟨x, hx, hk⟩
    rcases laws_inter_mem.1 hx with ⟨h1, h2⟩ | ⟨h1, h2⟩
    · obtain ⟨q, hq, e⟩ := covers_iff.1 h2
      exact ⟨⟨x, h1, hk⟩, q, hq, hasP_trans e hk⟩
    · obtain ⟨q, hq, e⟩ := covers_iff.1 h2
      exact ⟨⟨q, hq, hasP_trans e hk⟩, x, h1, hk⟩
  · rintro ⟨⟨p, hp, e⟩, q, hq, f⟩
    rcases Nat.le_total (bl p).length (bl q).length with h | h
    · exact ⟨q, laws_inter_mem.2 (.inr ⟨hq, covers_iff.2 ⟨p, hp, hasP_iff.2 (List.prefix_of_prefix_length_le (hasP_iff.1 e) (hasP_iff.1 f) h)⟩⟩), f⟩
    · exact ⟨p, laws_inter_mem.2 (.inl ⟨hp, covers_iff.2 ⟨q, hq, hasP_iff.2 (List.prefix_of_prefix_length_le (hasP_iff.1 f) (hasP_iff.1 e) h)⟩⟩), e⟩
theorem covers_append (a b : List ByteArray) (key : ByteArray) : coversL (a ++ b) key = (coversL a key || coversL b key) := by unfold coversL; rw [List.any_append]
theorem laws_j2 (a b : List ByteArray) (key : ByteArray) (la : a.length ≤ 60) (lb : b.length ≤ 60) (ra : rightB a = true) (rb : rightB b = true) : Ev (fun k => butterylaw08_ZoneLaws.j2 k a b key true false) true := Ev.succ (by
  obtain ⟨pa, ma', l8⟩ := right_iff.1 ra
  obtain ⟨pb, mb', l8b⟩ := right_iff.1 rb
  obtain ⟨ua, ma⟩ := right_min ma'
  obtain ⟨ub, mb⟩ := right_min mb'
  have ew : onceL (a.filter fun p => !coversL b p) = a.filter fun p => !coversL b p := onceL_self (ua.filter _)
  have lw := List.length_filter_le (fun p => !coversL b p) a
  have rw_ : rightB (a.filter fun p => !coversL b p) = true := by
    refine right_iff.2 ⟨fun p hp => pa p (List.mem_filter.1 hp).1, ?_, by omega⟩
    exact mins_of (ua.filter _) fun p hp => minB_iff.2 fun q hq h => ma p (List.mem_filter.1 hp).1 q (List.mem_filter.1 hq).1 h
  have ww : withinB (a.filter fun p => !coversL b p) a = true := within_iff.2 fun p hp => ⟨p, (List.mem_filter.1 hp).1, hasP_refl p⟩
  have li : (interL a b).length < 10000 := by
    have h1 := onceL_len (a.flatMap fun p => b.flatMap (both p))
    have hf : ∀ l : List ByteArray, (l.flatMap fun p => b.flatMap (both p)).length ≤ l.length * 60 := fun l => by
      induction l with
      | nil => simp
      | cons x l ih =>
        have := flat_len (both x) (both_len x) b
        rw [List.flatMap_cons, List.length_append, List.length_cons]
        omega
    have := hf a
    unfold interL
    omega
  have tail : Ev (fun k => (zone_Inter.f k a b).bind fun t => if (t.length : Int) > 8 then some true else (zone_Inter.f k a b).bind fun t2 => (zone_Right.f k t2).bind fun t3 => some t3) true := by
    refine Ev.bind (inter_ev a b (by omega) (by omega)) ?_
    by_cases c : ((interL a b).length : Int) > 8
    · exact Ev.pos c (Ev.const _)
    · refine Ev.neg c (Ev.bind (inter_ev a b (by omega) (by omega)) (Ev.bind (right_ev _ li) (Ev.eq (Ev.const _) ?_)))
      refine right_iff.2 ⟨fun p hp => ?_, ?_, by omega⟩
      · rcases laws_inter_mem.1 hp with h | h
        · exact pa p h.1
        · exact pb p h.1
      · refine mins_of (onceL_up _) fun x hx => minB_iff.2 fun y hy h => ?_
        rcases laws_inter_mem.1 hx with ⟨hx1, hx2⟩ | ⟨hx1, hx2⟩ <;> rcases laws_inter_mem.1 hy with ⟨hy1, hy2⟩ | ⟨hy1, hy2⟩
        · exact ma x hx1 y hy1 h
        · obtain ⟨p, hp, e⟩ := covers_iff.1 hy2
          obtain rfl := ma x hx1 p hp (hasP_trans e h)
          exact hasP_anti h e
        · obtain ⟨p, hp, e⟩ := covers_iff.1 hy2
          obtain rfl := mb x hx1 p hp (hasP_trans e h)
          exact hasP_anti h e
        · exact mb x hx1 y hy1 h
  simp only [butterylaw08_ZoneLaws.j2]
  refine Ev.neg (by simp) (Ev.bindc (without_val a b (by omega)) ?_)
  rw [ew]
  refine Ev.pos (by simp) (Ev.bind (right_ev _ (by omega)) (Ev.pos rw_ (Ev.bindc (within_val _ a) (Ev.pos ww (Ev.bindc (within_val a b) ?_)))))
  by_cases w : withinB a b = true
  · refine Ev.pos w (Ev.bindc (v := coversL a key) rfl ?_)
    by_cases c : coversL a key = true
    · have cb : coversL b key = true := by
        obtain ⟨p, hp, e⟩ := covers_iff.1 c
        obtain ⟨q, hq, f⟩ := within_iff.1 w p hp
        exact covers_iff.2 ⟨q, hq, hasP_trans f e⟩
      exact Ev.pos c (Ev.bindc (v := coversL b key) rfl (Ev.pos cb tail))
    · exact Ev.neg c tail
  · exact Ev.neg w tail)
theorem laws_j1 (a b : List ByteArray) (key : ByteArray) (la : a.length ≤ 60) (lb : b.length ≤ 60) (ra : rightB a = true) (rb : rightB b = true) : Ev (fun k => butterylaw08_ZoneLaws.j1 k a b key true) true := Ev.succ (by
  simp only [butterylaw08_ZoneLaws.j1]
  have j2 := laws_j2 a b key la lb ra rb
  refine Ev.bind (union_ev a b (by omega) (by omega)) ?_
  by_cases c : (normZ (a ++ b)).2 = 0
  · have hc : coversL (normZ (a ++ b)).1 key = (coversL a key || coversL b key) := by rw [(normZ_ok c).2.2, ← covers_append]; exact mins_covers _ key
    refine Ev.pos c (Ev.bindc (v := coversL (normZ (a ++ b)).1 key) rfl (Ev.bindc (v := coversL a key) rfl ?_))
    rw [hc]
    by_cases ca : coversL a key = true
    · refine Ev.pos ca ?_
      rw [ca]
      exact j2
    · refine Ev.neg ca (Ev.bindc (v := coversL b key) rfl ?_)
      rw [Bool.eq_false_iff.2 ca, Bool.false_or, bne_self_eq_false]
      exact j2
  · exact Ev.neg c j2)
theorem laws_law (a b : List ByteArray) (key : ByteArray) : Ev (fun k => butterylaw08_ZoneLaws.f k a b key) true := by
  unfold butterylaw08_ZoneLaws.f
  have out : Ev (fun k => butterylaw08_ZoneLaws.j0 k a b key true) true := Ev.succ (by simp only [butterylaw08_ZoneLaws.j0]; exact Ev.pos (by simp) (Ev.const _))
  refine Ev.bind awake_ev (Ev.pos rfl (Ev.bind (short_ev a) ?_))
  by_cases ha : shortB a = true
  rotate_left
  · exact Ev.neg ha out
  refine Ev.pos ha (Ev.bind (short_ev b) ?_)
  by_cases hb : shortB b = true
  rotate_left
  · exact Ev.neg hb out
  have la := (short_iff.1 ha).1
  have lb := (short_iff.1 hb).1
  refine Ev.pos hb (Ev.bind (right_ev a (by omega)) ?_)
  by_cases ra : rightB a = true
  rotate_left
  · exact Ev.neg ra out
  refine Ev.pos ra (Ev.bind (right_ev b (by omega)) ?_)
  by_cases rb : rightB b = true
  rotate_left
  · exact Ev.neg rb out
  refine Ev.pos rb ?_
  by_cases hk : decide ((key.size : Int) > 200) = true
  · rw [hk]; exact out
  rw [Bool.eq_false_iff.2 hk]
  refine Ev.succ ?_
  simp only [butterylaw08_ZoneLaws.j0]
  have j1 := laws_j1 a b key la lb ra rb
  refine Ev.neg (by simp) (Ev.bind (inter_ev a b (by omega) (by omega)) (Ev.bindc (v := coversL (interL a b) key) rfl (Ev.bindc (v := coversL a key) rfl ?_)))
  rw [laws_inter_covers]
  by_cases ca : coversL a key = true
  · refine Ev.pos ca (Ev.bindc (v := coversL b key) rfl ?_)
    rw [ca, Bool.true_and, beq_self_eq_true]
    exact j1
  · refine Ev.neg ca ?_
    rw [Bool.eq_false_iff.2 ca, Bool.false_and]
    exact j1
end Go.Proofs.Ytciiodbkhilkmaa.F
