/- The engine, part 7c: append, the operation; rows written out. -/
import Derived.Test.YtimmgdpicjmjjaaEOps8
namespace Go.Eng
open Go.RowKit
set_option linter.unusedVariables false
set_option linter.unusedSimpArgs false
variable {ob : Obs} {c c' : Con} {w w' w0 : World} {S0 : Nat → Prop} {G0 G : Gh} {σ σ' σ1 : St} {a a' : Act} {P : Program}
/-- A thing is forgotten. -/
theorem Rel.forget (h : Rel w0 S0 G0 σ c a w) {k g : Nat} {o : AObj} (hk : σ.ob k = (g, some o)) (ko : Option AObj) (hko : ko = none ∨ ∃ e xs, o = .row false e xs ∧ ko = some (.view e xs)) : Rel w0 S0 G0 (σ.lays [(k, g, ko)]) c a w := by
  have hkk : (σ.lays [(k, g, ko)]).ob k = (g, ko) := by rw [ob_lays1, if_pos rfl]
  have hqq : ∀ q, q ≠ k → (σ.lays [(k, g, ko)]).ob q = σ.ob q := fun q hq => by rw [ob_lays1, if_neg (fun e => hq e.symm)]
  have own' : ∀ q g' o', (σ.lays [(k, g, ko)]).ob q = (g', some o') → owned o' = true → σ.ob q = (g', some o') := fun q g' o' hq ho => by
    by_cases e : q = k
    · subst e
      rw [hkk] at hq
      rcases hko with rfl | ⟨e, xs, _, rfl⟩
      · cases hq
      · cases hq; simp [owned] at ho
    · rw [hqq q e] at hq; exact hq
  have hK : ∀ q, Keeps σ.ob (σ.lays [(k, g, ko)]).ob c c q := fun q => by
    by_cases e : q = k
    · subst e
      right
      rw [hkk, hk]
      rcases hko with rfl | ⟨e, xs, rfl, rfl⟩
      · exact ⟨rfl, fun n hn => by simp [rowLen] at hn, fun n hn => by simp [rowE] at hn, fun hv => by simp [isVar] at hv⟩
      · exact ⟨rfl, fun n hn => ⟨hn, rfl, rfl⟩, fun n hn => ⟨hn, rfl⟩, fun hv => by simp [isVar] at hv⟩
    · exact Keeps.same (hqq q e) rfl rfl
  refine h.step (Gh.le_refl _) hK h.imm h.sz (fun t => .inl ⟨rfl, rfl⟩) h.df (fun q g' o' hq => ?_) (fun q q' g1 g2 o1 o2 b h1 h2 h3 h4 h5 h6 => h.sep q q' g1 g2 o1 o2 b (own' q g1 o1 h1 h3) (own' q' g2 o2 h2 h4) h3 h4 h5 h6) (fun q g1 o1 b h1 h2 h3 => h.new q g1 o1 b (own' q g1 o1 h1 h2) h2 h3) h.fr h.fresh
  by_cases e : q = k
  · subst e
    rw [hkk] at hq
    rcases hko with rfl | ⟨e, xs, rfl, rfl⟩
    · cases hq
    · cases hq
      right
      exact ObOk.keep (Gh.le_refl _) hK rfl rfl (fun h => by simp [owned] at h) (h.read_view hk)
  · rw [hqq q e] at hq
    exact .inl ⟨hq, rfl, rfl, fun _ b _ => ⟨rfl, fun _ => rfl⟩⟩
theorem says_at {g o e : Nat} {ys : List (List PV)} (hw : Wide e ys) (hc : ∀ (j : Nat) (x : List PV) (i : Nat) (y : PV), ys[j]? = some x → x[i]? = some y → ∃ u, w.cell? ⟨g, o + j * e + i, none⟩ = some u ∧ Rep G y u) :
    ∃ news : List Value, (∀ j u, news[j]? = some u → w.cell? ((⟨g, o, none⟩ : Addr).add j) = some u) ∧ Says G e ys news := by
  have key : ∀ j x i y, ys[j]? = some x → x[i]? = some y → j * e + i < ys.length * e := fun j x i y hx hy => by
    have hj := (List.getElem?_eq_some_iff.1 hx).1
    have hi := (List.getElem?_eq_some_iff.1 hy).1
    rw [hw j x hx] at hi
    have : (j + 1) * e ≤ ys.length * e := Nat.mul_le_mul_right e (by omega)
    rw [Nat.succ_mul] at this
    omega
  refine ⟨(List.range (ys.length * e)).map fun j => (w.cell? ⟨g, o + j, none⟩).getD undef, fun j u hu => ?_, by simp, hw, fun j x i y hx hy => ?_⟩
  · obtain ⟨q, hq, rfl⟩ := map_get hu
    have hjl := (List.getElem?_eq_some_iff.1 hq).1
    simp at hjl
    rw [List.getElem?_range hjl] at hq
    cases hq
    rw [Addr.add_mid]
    have he : 0 < e := by
      rcases Nat.eq_zero_or_pos e with h0 | h0
      · subst h0; omega
      · exact h0
    have hj : j / e < ys.length := (Nat.div_lt_iff_lt_mul he).2 hjl
    have hx := List.getElem?_eq_getElem hj
    have hi : j % e < ys[j / e].length := by rw [hw _ _ hx]; exact Nat.mod_lt _ he
    obtain ⟨u, h1, _⟩ := hc _ _ _ _ hx (List.getElem?_eq_getElem hi)
    have e1 : o + j / e * e + j % e = o + j := by rw [Nat.add_assoc, Nat.mul_comm, Nat.div_add_mod]
    rw [e1] at h1
    rw [h1]
    rfl
  · obtain ⟨u, h1, h2⟩ := hc j x i y hx hy
    have := key j x i y hx hy
    rw [List.getD_eq_getElem?_getD, List.getElem?_map, List.getElem?_range this]
    simp only [Option.map_some, Option.getD_some]
    rw [show o + (j * e + i) = o + j * e + i by omega, h1]
    exact h2
def srcRM {α : Type} (esz : Nat) (y : AV) (k : List (List PV) → RM α) : RM α := match y with
  | .one (.at .nil) => k []
  | .one (.at (.pv (.list e ys))) => if e = esz then k ys else .fail
  | .one (.at (.row q g)) => .obj q fun r => match gone g r with
    | some (.row _ e ys) => if e = esz then k ys else .fail
    | some (.view e ys) => if e = esz then k ys else .fail
    | _ => .fail
  | _ => .fail
theorem val_srcRM {α : Type} {esz : Nat} {y : AV} {k : List (List PV) → RM α} {r : α} {tx e' : Nat} (hk : P.underlying tx = some (.slice e')) (h : (srcRM esz y k).val σ = some r) :
    ∃ ys, (k ys).val σ = some r ∧ ∀ w0 S0 G0 c a w v, Rel w0 S0 G0 σ c a w → RepAV σ.ob c y v → ∃ news, Src P esz tx v ys.length news w ∧ Says c.G esz ys news := by
  have nilCase : ∀ (w : World) (G : Gh) (A : Option Addr) (cap : Nat), ∃ news, Src P esz tx (.slice A 0 cap) ([] : List (List PV)).length news w ∧ Says G esz [] news := fun w G A cap => by
    refine ⟨[], ?_, by simp, fun j x hx => by simp at hx, fun j x i y hx => by simp at hx⟩
    cases A with
    | none => exact Src.ofNil w hk cap
    | some A => exact Src.ofSlice w hk A 0 cap [] (by simp) (fun j u hu => by simp at hu) (by simp)
  have rowCase : ∀ (w0 : World) (S0 : Nat → Prop) (G0 : Gh) (c : Con) (a : Act) (w : World) (q g : Nat) (o : AObj) (ys : List (List PV)) (v : Value), Rel w0 S0 G0 σ c a w → σ.ob q = (g, some o) → (o = .row true esz ys ∨ o = .row false esz ys ∨ o = .view esz ys) → v = rowVal (c.ρ q) ys.length (c.cp q) →
      ∃ news, Src P esz tx v ys.length news w ∧ Says c.G esz ys news := fun w0 S0 G0 c a w q g o ys v hR hob ho hv => by
    cases hb : c.ρ q with
    | none =>
      have hnil : ys = [] := by
        have := hR.obs q g o hob
        rcases ho with rfl | rfl | rfl
        · rcases this with ⟨_, h2, _⟩ | ⟨b, cs, ty, hb', _⟩
          · exact h2
          · rw [hb] at hb'; cases hb'
        · rcases this with ⟨_, h2, _⟩ | ⟨b, cs, ty, hb', _⟩
          · exact h2
          · rw [hb] at hb'; cases hb'
        · rcases this with ⟨_, h2⟩ | ⟨b, hb', _⟩
          · exact h2
          · rw [hb] at hb'; cases hb'
      subst hnil
      rw [hv, hb]
      exact nilCase w c.G none 0
    | some b =>
      have hw : Wide esz ys := fun j x hx => by
        obtain ⟨_, _, _, h3, _⟩ := hR.row_elem hob ho hx
        exact h3
      obtain ⟨news, h1, h2⟩ := says_at (w := w) (g := b) (o := 0) (G := c.G) hw fun j x i y hx hy => by
        obtain ⟨b', hb', _, _, h4⟩ := hR.row_elem hob ho hx
        rw [hb] at hb'
        cases hb'
        rw [Nat.zero_add]
        exact h4 i y hy
      refine ⟨news, ?_, h2⟩
      rw [hv, hb]
      exact Src.ofSlice w hk ⟨b, 0, none⟩ ys.length (c.cp q) news h2.1 h1 h2.one
  unfold srcRM at h
  split at h
  case h_1 => exact ⟨[], h, fun w0 S0 G0 c a w v hR hv => by have hv : v = .slice none 0 0 := hv; rw [hv]; exact nilCase w c.G none 0⟩
  case h_2 e ys =>
    split at h
    case isFalse => simp [RM.val] at h
    case isTrue he =>
      subst he
      refine ⟨ys, h, fun w0 S0 G0 c a w v hR hv => ?_⟩
      have hv : Rep c.G (.list e ys) v := hv
      cases hv with
      | nil _ A cap => exact nilCase w c.G A cap
      | list _ _ g o cap f hc hw hg hr =>
        obtain ⟨news, h1, h2⟩ := says_at (w := w) (g := g) (o := o) (G := c.G) hw fun j x i y hx hy => ⟨_, hR.imm _ _ _ (hg j x i y hx hy), hr j x i y hx hy⟩
        exact ⟨news, Src.ofSlice w hk ⟨g, o, none⟩ ys.length cap news h2.1 h1 h2.one, h2⟩
  case h_3 q g =>
    simp only [RM.val] at h
    split at h
    case h_1 own e ys hq =>
      split at h
      case isFalse => simp [RM.val] at h
      case isTrue he =>
        subst he
        have hob := gone_some hq
        refine ⟨ys, h, fun w0 S0 G0 c a w v hR hv => rowCase w0 S0 G0 c a w q g _ ys v hR hob (by cases own <;> simp) (hv.2 _ (by rw [alive_of hob]; rfl))⟩
    case h_2 e ys hq =>
      split at h
      case isFalse => simp [RM.val] at h
      case isTrue he =>
        subst he
        have hob := gone_some hq
        refine ⟨ys, h, fun w0 S0 G0 c a w v hR hv => rowCase w0 S0 G0 c a w q g _ ys v hR hob (by simp) (hv.2 _ (by rw [alive_of hob]; rfl))⟩
    case h_3 => simp [RM.val] at h
  case h_4 => simp [RM.val] at h
end Go.Eng
