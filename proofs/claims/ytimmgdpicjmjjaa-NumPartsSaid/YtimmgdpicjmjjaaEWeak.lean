/- The engine, part 12: states that say less: names made young again, slots forgotten. -/
import Derived.Test.YtimmgdpicjmjjaaESpec
namespace Go.Eng
open Go.RowKit
set_option linter.unusedVariables false
set_option linter.unusedSimpArgs false
variable {c c' : Con} {w w' w0 : World} {S0 : Nat → Prop} {G0 G : Gh} {σ σ' σ1 : St} {a a' : Act} {P : Program}
def young (σ : St) (qs : List Nat) (k g : Nat) : Bool := qs.contains k && (σ.ob k).1 == g
def renAt (σ : St) (qs : List Nat) : At → At
  | .pv p => .pv p
  | .nil => .nil
  | .any => .any
  | .row k g => if young σ qs k g = true then .row k 0 else .any
  | .ptr k g o => if young σ qs k g = true then .ptr k 0 o else .any
  | .eptr k g j o => if young σ qs k g = true then .eptr k 0 j o else .any
def renV1 (σ : St) (qs : List Nat) : V1 → V1
  | .at x => .at (renAt σ qs x)
  | .agg l => .agg (l.map (renAt σ qs))
def renAV (σ : St) (qs : List Nat) : AV → AV
  | .one x => .one (renV1 σ qs x)
  | .tup l => .tup (l.map (renV1 σ qs))
def renO (σ : St) (qs : List Nat) : AObj → AObj
  | .blk cells => .blk (cells.map (renAt σ qs))
  | .fro cells => .fro cells
  | .row own e xs => .row own e xs
  | .view e xs => .view e xs
def keepSlots (σ : St) (qs ks : List Nat) : Nat → List AV → List AV
  | _, [] => []
  | t, v :: l => (if ks.contains t = true then renAV σ qs v else .any) :: keepSlots σ qs ks (t + 1) l
theorem keepSlots_len (σ : St) (qs ks : List Nat) : ∀ (l : List AV) (t : Nat), (keepSlots σ qs ks t l).length = l.length
  | [], _ => rfl
  | v :: l, t => by simp [keepSlots, keepSlots_len σ qs ks l]
theorem keepSlots_get (σ : St) (qs ks : List Nat) : ∀ (l : List AV) (t i : Nat), (keepSlots σ qs ks t l).getD i .any = .any ∨ ∃ v, l[i]? = some v ∧ (keepSlots σ qs ks t l).getD i .any = renAV σ qs v
  | [], _, _ => .inl rfl
  | v :: l, t, 0 => by
    simp only [keepSlots, List.getD_cons_zero]
    split
    · exact .inr ⟨v, rfl, rfl⟩
    · exact .inl rfl
  | v :: l, t, i + 1 => by
    simp only [keepSlots, List.getD_cons_succ, List.getElem?_cons_succ]
    exact keepSlots_get σ qs ks l (t + 1) i
/-- Of the slots ks, of the things qs alone. -/
def St.norm (σ : St) (ks qs : List Nat) : St := { slots := keepSlots σ qs ks 0 σ.slots, obs := qs.map fun q => (q, 0, (σ.ob q).2.map (renO σ qs)) }
theorem look_map (f : Nat → Nat × Option AObj) (k : Nat) : ∀ qs : List Nat, look (qs.map fun q => (q, f q)) k = if qs.contains k = true then f k else (0, none)
  | [] => rfl
  | q :: qs => by
    simp only [List.map_cons, look, look_map f k qs, List.contains_cons]
    by_cases e : q = k
    · subst e; simp
    · rw [if_neg e]
      have : (k == q) = false := by simpa using fun h => e h.symm
      simp [this]
theorem ob_norm (σ : St) (ks qs : List Nat) (k : Nat) : (σ.norm ks qs).ob k = if qs.contains k = true then (0, (σ.ob k).2.map (renO σ qs)) else (0, none) := look_map (fun q => (0, (σ.ob q).2.map (renO σ qs))) k qs
theorem renO_shape (o : Option AObj) (qs : List Nat) : rowLen (o.map (renO σ qs)) = rowLen o ∧ rowE (o.map (renO σ qs)) = rowE o ∧ isVar (o.map (renO σ qs)) = isVar o := by
  cases o with
  | none => exact ⟨rfl, rfl, rfl⟩
  | some o => cases o <;> exact ⟨rfl, rfl, rfl⟩
theorem alive_norm {ks qs : List Nat} {k g : Nat} (h : young σ qs k g = true) : alive (σ.norm ks qs).ob k 0 = (alive σ.ob k g).map (renO σ qs) := by
  unfold young at h
  rw [Bool.and_eq_true] at h
  unfold alive
  rw [ob_norm, if_pos h.1]
  have : (σ.ob k).1 = g := by simpa using h.2
  rw [if_pos rfl, if_pos this]
theorem RepAt.norm {ks qs : List Nat} {x : At} {v : Value} (h : RepAt σ.ob c x v) : RepAt (σ.norm ks qs).ob c (renAt σ qs x) v := by
  cases x with
  | pv p => exact h
  | nil => exact h
  | any => trivial
  | row k g =>
    simp only [renAt]
    split
    · rename_i hy
      refine ⟨Nat.zero_le _, fun n hn => h.2 n ?_⟩
      rw [alive_norm hy, (renO_shape _ qs).1] at hn
      exact hn
    · trivial
  | ptr k g o =>
    simp only [renAt]
    split
    · rename_i hy
      refine ⟨Nat.zero_le _, fun hv => h.2 ?_⟩
      rw [alive_norm hy, (renO_shape _ qs).2.2] at hv
      exact hv
    · trivial
  | eptr k g j o =>
    simp only [renAt]
    split
    · rename_i hy
      refine ⟨Nat.zero_le _, fun n hn => h.2 n ?_⟩
      rw [alive_norm hy, (renO_shape _ qs).2.1] at hn
      exact hn
    · trivial
theorem RepV1.norm {ks qs : List Nat} {x : V1} {v : Value} (h : RepV1 σ.ob c x v) : RepV1 (σ.norm ks qs).ob c (renV1 σ qs x) v := by
  cases x with
  | «at» x => exact RepAt.norm h
  | agg l =>
    obtain ⟨cs, e, hl, hr⟩ := h
    refine ⟨cs, e, by simp [hl], fun i y hy => ?_⟩
    obtain ⟨z, hz, rfl⟩ := map_get hy
    exact (hr i z hz).norm
theorem RepAV.norm {ks qs : List Nat} {x : AV} {v : Value} (h : RepAV σ.ob c x v) : RepAV (σ.norm ks qs).ob c (renAV σ qs x) v := by
  cases x with
  | one x => exact RepV1.norm h
  | tup l =>
    obtain ⟨cs, e, hl, hr⟩ := h
    refine ⟨cs, e, by simp [hl], fun i y hy => ?_⟩
    obtain ⟨z, hz, rfl⟩ := map_get hy
    exact (hr i z hz).norm
theorem weak_norm (σ : St) (ks qs : List Nat) : Weak σ (σ.norm ks qs) := by
  intro w0 S0 G0 c a w h
  have obs : ∀ k g o, (σ.norm ks qs).ob k = (g, some o) → ∃ g' o', σ.ob k = (g', some o') ∧ o = renO σ qs o' ∧ owned o' = owned o := fun k g o ho => by
    rw [ob_norm] at ho
    split at ho
    · cases hq : (σ.ob k).2 with
      | none => rw [hq] at ho; cases ho
      | some o' =>
        rw [hq] at ho
        simp only [Option.map_some, Prod.mk.injEq, Option.some.injEq] at ho
        obtain ⟨rfl, rfl⟩ := ho
        exact ⟨(σ.ob k).1, o', by rw [← hq], rfl, by cases o' <;> rfl⟩
    · cases ho
  refine ⟨c, ⟨h.le, h.imm, by rw [show (σ.norm ks qs).slots = keepSlots σ qs ks 0 σ.slots from rfl, keepSlots_len]; exact h.sz, fun t => ?_, h.df, fun k g o ho => ?_, fun k k' g g' o o' b h1 h2 h3 h4 h5 h6 => ?_, fun k g o b h1 h2 h3 => ?_, h.fr, h.fresh⟩⟩
  · rcases keepSlots_get σ qs ks σ.slots 0 t with e | ⟨v, hv, e⟩
    · rw [show (σ.norm ks qs).slot t = .any from e]; trivial
    · rw [show (σ.norm ks qs).slot t = renAV σ qs v from e]
      have := h.slots t
      rw [show σ.slot t = v by unfold St.slot; rw [List.getD_eq_getElem?_getD, hv]; rfl] at this
      exact this.norm
  · obtain ⟨g', o', h1, rfl, _⟩ := obs k g o ho
    have := h.obs k g' o' h1
    cases o' with
    | blk cells =>
      obtain ⟨b, cs, ty, hb, hh, hl, hr, hg⟩ := this
      refine ⟨b, cs, ty, hb, hh, by simp [hl], fun i x hx => ?_, hg⟩
      obtain ⟨y, hy, rfl⟩ := map_get hx
      exact (hr i y hy).norm
    | fro cells => exact this
    | row own e xs => exact this
    | view e xs => exact this
  · obtain ⟨g1, o1, q1, _, q2⟩ := obs k g o h1
    obtain ⟨g2, o2, q3, _, q4⟩ := obs k' g' o' h2
    exact h.sep k k' g1 g2 o1 o2 b q1 q3 (q2.trans h3) (q4.trans h4) h5 h6
  · obtain ⟨g1, o1, q1, _, q2⟩ := obs k g o h1
    exact h.new k g1 o1 b q1 (q2.trans h2) h3
/-- A run from a state that says no more than this one. -/
theorem ARun.from_norm {E : Env} {x : Code} {e : Exit} {σ2 : St} (ks qs : List Nat) (h : σ.norm ks qs = σ1) (hr : ARun P E x σ1 e σ2) : ARun P E x σ e σ2 := .weak (h ▸ weak_norm σ ks qs) hr
theorem ARun.to_norm {E : Env} {x : Code} {e : Exit} {σ2 : St} (ks qs : List Nat) (hr : ARun P E x σ e σ1) (h : σ1.norm ks qs = σ2) : ARun P E x σ e σ2 := .post hr (h ▸ weak_norm σ1 ks qs)
/-- A loop that goes round n times and is left then. -/
theorem ARun.rounds {E : Env} {x : Code} {e : Exit} (H : Nat → St → Prop) (he : e ≠ .normal) (last : ∀ s, H 0 s → ARun P E x s e σ')
    (round : ∀ n s, H (n + 1) s → (∃ s1, ARun P E x s .normal s1 ∧ H n s1) ∨ ARun P E x s e σ') : ∀ n s, H n s → ARun P E (.loop x) s e σ'
  | 0, s, h => .loopx (last s h) he
  | n + 1, s, h => by
    rcases round n s h with ⟨s1, h1, h2⟩ | h1
    · exact .loop h1 (ARun.rounds H he last round n s1 h2)
    · exact .loopx h1 he
theorem again {E : Env} {x : Code} {e : Exit} {s s1 : St} {H : St → Prop} (h1 : ARun P E x s .normal s1) (h2 : H s1) : (∃ s1, ARun P E x s .normal s1 ∧ H s1) ∨ ARun P E x s e σ' := .inl ⟨s1, h1, h2⟩

/-- A nil slice is a row without elements. -/
theorem weak_nil {t d e : Nat} (h : σ.slot t = .one (.at .nil)) : Weak σ (σ.app (some t) ⟨.one (.at (.row d ((σ.ob d).1 + 1))), [(d, (σ.ob d).1 + 1, some (.row true e []))]⟩) := by
  intro w0 S0 G0 c a w hR
  obtain ⟨c', h1⟩ := hR.nilrow d e true (some t)
  refine ⟨c', ?_⟩
  have hv := hR.slots t
  rw [h] at hv
  have hv : a.tmps.getD t undef = .slice none 0 0 := hv
  have ht : t < a.tmps.size := by
    rcases Nat.lt_or_ge t a.tmps.size with h | h
    · exact h
    · rw [Array.getD_eq_getD_getElem?, Array.getElem?_eq_none h] at hv
      simp [undef] at hv
  have e : a.put (some t) (.slice none 0 0) = a := by
    unfold Act.put
    cases a with
    | mk tmps defers =>
      simp only [Act.mk.injEq, and_true]
      apply Array.ext_getElem?
      intro i
      dsimp only at hv ht
      rw [Array.getElem?_setIfInBounds]
      split
      · rename_i hi
        subst hi
        rw [Array.getD_eq_getD_getElem?, Array.getElem?_eq_getElem ht] at hv
        rw [Array.getElem?_eq_getElem ht]
        simpa using hv.symm
      · rfl
  rw [e] at h1
  exact h1
theorem ARun.from_nil {E : Env} {x : Code} {e : Exit} {σ2 : St} (t d el : Nat) (h : σ.slot t = .one (.at .nil)) (hs : σ.app (some t) ⟨.one (.at (.row d ((σ.ob d).1 + 1))), [(d, (σ.ob d).1 + 1, some (.row true el []))]⟩ = σ1) (hr : ARun P E x σ1 e σ2) : ARun P E x σ e σ2 := .weak (hs ▸ weak_nil h) hr
end Go.Eng
