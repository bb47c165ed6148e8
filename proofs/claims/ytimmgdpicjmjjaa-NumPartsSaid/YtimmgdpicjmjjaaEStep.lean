/- The engine, part 2: how a state goes on standing for a world when things are made, changed, led on. -/
import Derived.Test.YtimmgdpicjmjjaaEBase
namespace Go.Eng
open Go.RowKit
set_option linter.unusedVariables false
set_option linter.unusedSimpArgs false
variable {ob ob' : Obs} {c c' : Con} {w w' w0 : World} {S0 : Nat → Prop} {G0 : Gh} {σ σ' : St} {a a' : Act}
/-- What the names of a thing mean is as it was, or its names are too old now. -/
def Keeps (ob ob' : Obs) (c c' : Con) (k : Nat) : Prop :=
  (ob k).1 < (ob' k).1 ∨ ((ob' k).1 = (ob k).1 ∧ (∀ n, rowLen (ob' k).2 = some n → rowLen (ob k).2 = some n ∧ c'.ρ k = c.ρ k ∧ c'.cp k = c.cp k) ∧
    (∀ e, rowE (ob' k).2 = some e → rowE (ob k).2 = some e ∧ c'.ρ k = c.ρ k) ∧ (isVar (ob' k).2 = true → isVar (ob k).2 = true ∧ c'.ρ k = c.ρ k))
theorem Keeps.same {k : Nat} (h : ob' k = ob k) (h1 : c'.ρ k = c.ρ k) (h2 : c'.cp k = c.cp k) : Keeps ob ob' c c' k := by
  refine .inr ⟨by rw [h], fun n hn => ⟨by rw [← h]; exact hn, h1, h2⟩, fun e he => ⟨by rw [← h]; exact he, h1⟩, fun hv => ⟨by rw [← h]; exact hv, h1⟩⟩
theorem RepAt.keep {x : At} {v : Value} (hG : Gh.le c.G c'.G) (hk : ∀ k, Keeps ob ob' c c' k) (h : RepAt ob c x v) : RepAt ob' c' x v := by
  cases x with
  | pv p => exact Rep.mono hG h
  | nil => exact h
  | any => trivial
  | row k g =>
    obtain ⟨hg, h⟩ := h
    rcases hk k with hb | ⟨he, h1, _, _⟩
    · refine ⟨by omega, fun n hn => ?_⟩
      unfold alive at hn
      rw [if_neg (by omega)] at hn
      simp [rowLen] at hn
    · refine ⟨by omega, fun n hn => ?_⟩
      unfold alive at hn h
      rw [he] at hn
      by_cases c1 : (ob k).1 = g
      · rw [if_pos c1] at hn h
        obtain ⟨a1, a2, a3⟩ := h1 n hn
        rw [h n a1, a2, a3]
      · rw [if_neg c1] at hn; simp [rowLen] at hn
  | ptr k g off =>
    obtain ⟨hg, h⟩ := h
    rcases hk k with hb | ⟨he, _, _, h3⟩
    · refine ⟨by omega, fun hv => ?_⟩
      unfold alive at hv
      rw [if_neg (by omega)] at hv
      simp [isVar] at hv
    · refine ⟨by omega, fun hv => ?_⟩
      unfold alive at hv h
      rw [he] at hv
      by_cases c1 : (ob k).1 = g
      · rw [if_pos c1] at hv h
        obtain ⟨a1, a2⟩ := h3 hv
        rw [a2]
        exact h a1
      · rw [if_neg c1] at hv; simp [isVar] at hv
  | eptr k g j off =>
    obtain ⟨hg, h⟩ := h
    rcases hk k with hb | ⟨he, _, h2, _⟩
    · refine ⟨by omega, fun n hn => ?_⟩
      unfold alive at hn
      rw [if_neg (by omega)] at hn
      simp [rowE] at hn
    · refine ⟨by omega, fun n hn => ?_⟩
      unfold alive at hn h
      rw [he] at hn
      by_cases c1 : (ob k).1 = g
      · rw [if_pos c1] at hn h
        obtain ⟨a1, a2⟩ := h2 n hn
        rw [a2]
        exact h n a1
      · rw [if_neg c1] at hn; simp [rowE] at hn
theorem RepV1.keep {x : V1} {v : Value} (hG : Gh.le c.G c'.G) (hk : ∀ k, Keeps ob ob' c c' k) (h : RepV1 ob c x v) : RepV1 ob' c' x v := by
  cases x with
  | «at» a => exact RepAt.keep hG hk h
  | agg l => obtain ⟨cs, e, hl, hr⟩ := h; exact ⟨cs, e, hl, fun i x hx => RepAt.keep hG hk (hr i x hx)⟩
theorem RepAV.keep {x : AV} {v : Value} (hG : Gh.le c.G c'.G) (hk : ∀ k, Keeps ob ob' c c' k) (h : RepAV ob c x v) : RepAV ob' c' x v := by
  cases x with
  | one a => exact RepV1.keep hG hk h
  | tup l => obtain ⟨cs, e, hl, hr⟩ := h; exact ⟨cs, e, hl, fun i x hx => RepV1.keep hG hk (hr i x hx)⟩
theorem ObOk.keep {k : Nat} {o : AObj} (hG : Gh.le c.G c'.G) (hk : ∀ k, Keeps ob ob' c c' k) (h1 : c'.ρ k = c.ρ k) (h2 : c'.cp k = c.cp k)
    (hw : owned o = true → ∀ b, c.ρ k = some b → w'.heap[b]? = w.heap[b]? ∧ ∀ i, c'.G b i = c.G b i) (h : ObOk ob c w k o) : ObOk ob' c' w' k o := by
  cases o with
  | blk cells =>
    obtain ⟨b, cs, ty, hb, hh, hl, hr, hg⟩ := h
    obtain ⟨q1, q2⟩ := hw rfl b hb
    exact ⟨b, cs, ty, by rw [h1, hb], by rw [q1, hh], hl, fun i x hx => RepAt.keep hG hk (hr i x hx), fun o => by rw [q2, hg]⟩
  | fro cells =>
    obtain ⟨b, hb, hr⟩ := h
    exact ⟨b, by rw [h1, hb], fun i p hp => let ⟨v, a1, a2⟩ := hr i p hp; ⟨v, hG _ _ _ a1, a2.mono hG⟩⟩
  | row own e xs =>
    rcases h with ⟨e1, e2, e3⟩ | ⟨b, cs, ty, hb, hh, hl, hc, hwd, hr, hg⟩
    · exact .inl ⟨by rw [h1, e1], e2, by rw [h2, e3]⟩
    · obtain ⟨q1, q2⟩ := hw rfl b hb
      refine .inr ⟨b, cs, ty, by rw [h1, hb], by rw [q1, hh], by rw [h2]; exact hl, by rw [h2]; exact hc, hwd, fun j x i y hx hy => (hr j x i y hx hy).mono hG, ?_⟩
      cases own with
      | true => exact fun o => by rw [q2]; exact hg o
      | false => exact ⟨fun o ho => by rw [q2]; exact hg.1 o ho, fun o ho => by rw [q2]; exact hg.2 o ho⟩
  | view e xs =>
    rcases h with ⟨e1, e2⟩ | ⟨b, hb, hl, hwd, hr⟩
    · exact .inl ⟨by rw [h1, e1], e2⟩
    · exact .inr ⟨b, by rw [h1, hb], by rw [h2]; exact hl, hwd, fun j x i y hx hy => let ⟨v, a1, a2⟩ := hr j x i y hx hy; ⟨v, hG _ _ _ a1, a2.mono hG⟩⟩
/-- The whole step. -/
theorem Rel.step (h : Rel w0 S0 G0 σ c a w) (hG : Gh.le c.G c'.G) (hk : ∀ k, Keeps σ.ob σ'.ob c c' k)
    (himm : ∀ b o v, c'.G b o = some v → w'.cell? ⟨b, o, none⟩ = some v) (hsz : σ'.slots.length ≤ a'.tmps.size)
    (hslots : ∀ t, (σ'.slot t = σ.slot t ∧ a'.tmps.getD t undef = a.tmps.getD t undef) ∨ RepAV σ'.ob c' (σ'.slot t) (a'.tmps.getD t undef))
    (hdf : a'.defers = [])
    (hobs : ∀ k g o, σ'.ob k = (g, some o) → (σ.ob k = (g, some o) ∧ c'.ρ k = c.ρ k ∧ c'.cp k = c.cp k ∧ (owned o = true → ∀ b, c.ρ k = some b → w'.heap[b]? = w.heap[b]? ∧ ∀ i, c'.G b i = c.G b i)) ∨ ObOk σ'.ob c' w' k o)
    (hsep : ∀ k k' g g' o o' b, σ'.ob k = (g, some o) → σ'.ob k' = (g', some o') → owned o = true → owned o' = true → c'.ρ k = some b → c'.ρ k' = some b → k = k')
    (hnew : ∀ k g o b, σ'.ob k = (g, some o) → owned o = true → c'.ρ k = some b → w0.heap.size ≤ b ∨ S0 b)
    (hfr : Fr S0 w0 w') (hfresh : ∀ b o, c'.G b o ≠ G0 b o → w0.heap.size ≤ b ∨ S0 b) : Rel w0 S0 G0 σ' c' a' w' where
  le := Gh.le_trans h.le hG
  imm := himm
  sz := hsz
  slots t := by
    rcases hslots t with ⟨e1, e2⟩ | h'
    · rw [e1, e2]; exact RepAV.keep hG hk (h.slots t)
    · exact h'
  df := hdf
  obs k g o ho := by
    rcases hobs k g o ho with ⟨e, e1, e2, hw⟩ | h'
    · exact ObOk.keep hG hk e1 e2 hw (h.obs k g o e)
    · exact h'
  sep := hsep
  new := hnew
  fr := hfr
  fresh := hfresh
def St.put (σ : St) (d : Option Nat) (v : AV) : St := match d with | some d => { σ with slots := σ.slots.set d v } | none => σ
theorem St.ob_put (σ : St) (d : Option Nat) (v : AV) : (σ.put d v).ob = σ.ob := by cases d <;> rfl
theorem St.len_put (σ : St) (d : Option Nat) (v : AV) : (σ.put d v).slots.length = σ.slots.length := by cases d <;> simp [St.put]
theorem Act.size_put (a : Act) (d : Option Nat) (v : Value) : (a.put d v).tmps.size = a.tmps.size := by cases d <;> simp [Act.put]
theorem Act.defers_put (a : Act) (d : Option Nat) (v : Value) : (a.put d v).defers = a.defers := by cases d <;> simp [Act.put]
/-- A slot is set on both sides. -/
theorem slot_put (hsz : σ.slots.length ≤ a.tmps.size) (d : Option Nat) (x : AV) (v : Value) (t : Nat) :
    ((σ.put d x).slot t = σ.slot t ∧ (a.put d v).tmps.getD t undef = a.tmps.getD t undef) ∨ ((σ.put d x).slot t = x ∧ (a.put d v).tmps.getD t undef = v) ∨ (σ.put d x).slot t = .any := by
  cases d with
  | none => exact .inl ⟨rfl, rfl⟩
  | some d =>
    by_cases e : d = t
    · subst e
      by_cases hl : d < σ.slots.length
      · refine .inr (.inl ⟨?_, ?_⟩)
        · simp [St.put, St.slot, List.getD_eq_getElem?_getD, hl]
        · have : d < a.tmps.size := by omega
          simp [Act.put, Array.getD_eq_getD_getElem?, this]
      · refine .inr (.inr ?_)
        simp [St.put, St.slot, List.getD_eq_getElem?_getD, hl]
    · refine .inl ⟨?_, ?_⟩
      · simp [St.put, St.slot, List.getD_eq_getElem?_getD, e]
      · simp [Act.put, Array.getD_eq_getD_getElem?, e]
theorem RepAV.any_ (v : Value) : RepAV ob c .any v := trivial
theorem slot_put' {P : St → Prop} (hsz : σ.slots.length ≤ a.tmps.size) (d : Option Nat) (x : AV) (v : Value) (hx : RepAV ob c x v) (t : Nat) :
    ((σ.put d x).slot t = σ.slot t ∧ (a.put d v).tmps.getD t undef = a.tmps.getD t undef) ∨ RepAV ob c ((σ.put d x).slot t) ((a.put d v).tmps.getD t undef) := by
  rcases slot_put hsz d x v t with h | ⟨h1, h2⟩ | h
  · exact .inl h
  · right; rw [h1, h2]; exact hx
  · right; rw [h]; trivial
/-- Nothing but a slot is set; the tape may be read. -/
theorem Rel.setSlot (h : Rel w0 S0 G0 σ c a w) (d : Option Nat) (x : AV) (v : Value) (hx : RepAV σ.ob c x v) : Rel w0 S0 G0 (σ.put d x) c (a.put d v) w :=
  h.step (Gh.le_refl _) (fun k => Keeps.same (by rw [St.ob_put]) rfl rfl) h.imm (by rw [St.len_put, Act.size_put]; exact h.sz)
    (fun t => by rw [St.ob_put]; exact slot_put' (P := fun _ => True) h.sz d x v hx t) (by rw [Act.defers_put]; exact h.df)
    (fun k g o ho => by rw [St.ob_put] at ho; exact .inl ⟨ho, rfl, rfl, fun _ b hb => ⟨rfl, fun _ => rfl⟩⟩)
    (by rw [St.ob_put]; exact h.sep) (by rw [St.ob_put]; exact h.new) h.fr h.fresh
theorem Fr.drew {S : Nat → Prop} (h : Fr S w0 w) (hd : w' = { w with drawn := w'.drawn }) : Fr S w0 w' := by
  rw [hd]; exact ⟨h.os, h.tape, h.output, h.size, h.block⟩
theorem Rel.drew (h : Rel w0 S0 G0 σ c a w) (n : Nat) : Rel w0 S0 G0 σ c a { w with drawn := n } :=
  h.step (Gh.le_refl _) (fun k => Keeps.same rfl rfl rfl) h.imm h.sz (fun t => .inl ⟨rfl, rfl⟩) h.df
    (fun k g o ho => .inl ⟨ho, rfl, rfl, fun _ b hb => ⟨rfl, fun _ => rfl⟩⟩) h.sep h.new ⟨h.fr.os, h.fr.tape, h.fr.output, h.fr.size, h.fr.block⟩ h.fresh
/-- The blocks of what a walk has made are there. -/
theorem Rel.blk_lt (h : Rel w0 S0 G0 σ c a w) {k g : Nat} {o : AObj} {b : Nat} (ho : σ.ob k = (g, some o)) (hw : owned o = true) (hb : c.ρ k = some b) : b < w.heap.size := by
  have hk := h.obs k g o ho
  cases o with
  | blk cells =>
    obtain ⟨b', cs, ty, hb', hh, _⟩ := hk
    rw [hb] at hb'; cases hb'
    exact (Array.getElem?_eq_some_iff.1 hh).1
  | fro cells => simp [owned] at hw
  | view e xs => simp [owned] at hw
  | row own e xs =>
    rcases hk with ⟨e1, _⟩ | ⟨b', cs, ty, hb', hh, _⟩
    · rw [hb] at e1; cases e1
    · rw [hb] at hb'; cases hb'
      exact (Array.getElem?_eq_some_iff.1 hh).1
theorem Rel.gh_lt (h : Rel w0 S0 G0 σ c a w) {b o : Nat} {v : Value} (hg : c.G b o = some v) : b < w.heap.size := by
  have := h.imm b o v hg
  unfold World.cell? at this
  cases e : w.heap[b]? with
  | none => rw [e] at this; simp at this
  | some x => exact (Array.getElem?_eq_some_iff.1 e).1
end Go.Eng
