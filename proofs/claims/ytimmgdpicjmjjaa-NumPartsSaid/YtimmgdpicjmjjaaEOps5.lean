/- The engine, part 7: rows led on: what was one's own stands still from now on. -/
import Derived.Test.YtimmgdpicjmjjaaEOps4
namespace Go.Eng
open Go.RowKit
set_option linter.unusedVariables false
set_option linter.unusedSimpArgs false
variable {ob : Obs} {c c' : Con} {w w' w0 : World} {S0 : Nat → Prop} {G0 G : Gh} {σ σ' σ1 : St} {a a' : Act} {P : Program}
/-- A state that says the same stands for the same. -/
theorem Rel.congr (h : Rel w0 S0 G0 σ c a w) (h1 : σ'.slots = σ.slots) (h2 : ∀ k, σ'.ob k = σ.ob k) : Rel w0 S0 G0 σ' c a w := by
  have e : σ'.ob = σ.ob := funext h2
  exact ⟨h.le, h.imm, by rw [h1]; exact h.sz, fun t => by rw [e, show σ'.slot t = σ.slot t by unfold St.slot; rw [h1]]; exact h.slots t, h.df, by rw [e]; exact h.obs, by rw [e]; exact h.sep, by rw [e]; exact h.new, h.fr, h.fresh⟩
theorem ob_lays1 (σ : St) (k : Nat) (y : Nat × Option AObj) (q : Nat) : (σ.lays [(k, y)]).ob q = if k = q then y else σ.ob q := look_lay σ.obs k y q
/-- A row of one's own, and nobody writes it from now on but behind its end. -/
theorem Rel.freeze (h : Rel w0 S0 G0 σ c a w) {k g e : Nat} {xs : List (List PV)} (hk : σ.ob k = (g, some (.row true e xs))) :
    ∃ c', Rel w0 S0 G0 (σ.lays [(k, g, some (.row false e xs))]) c' a w ∧ Gh.le c.G c'.G ∧ c'.ρ = c.ρ ∧ c'.cp = c.cp := by
  have hob := h.obs k g _ hk
  have hkk : (σ.lays [(k, g, some (.row false e xs))]).ob k = (g, some (.row false e xs)) := by rw [ob_lays1, if_pos rfl]
  have hko : ∀ q, q ≠ k → (σ.lays [(k, g, some (.row false e xs))]).ob q = σ.ob q := fun q hq => by rw [ob_lays1, if_neg (fun e => hq e.symm)]
  have mk : ∀ c' : Con, c'.ρ = c.ρ → c'.cp = c.cp → Gh.le c.G c'.G → (∀ b o v, c'.G b o = some v → w.cell? ⟨b, o, none⟩ = some v) → (∀ b, c.ρ k ≠ some b → ∀ i, c'.G b i = c.G b i) →
      (∀ b o, c'.G b o ≠ G0 b o → w0.heap.size ≤ b ∨ S0 b) →
      ObOk σ.ob c' w k (.row false e xs) → Rel w0 S0 G0 (σ.lays [(k, g, some (.row false e xs))]) c' a w := by
    intro c' e1 e2 hG himm hoth hfresh hnew
    have hK : ∀ q, Keeps σ.ob (σ.lays [(k, g, some (.row false e xs))]).ob c c' q := fun q => by
      by_cases eq : q = k
      · subst eq
        right
        rw [hkk, hk, e1, e2]
        exact ⟨rfl, fun n hn => ⟨hn, rfl, rfl⟩, fun e he => ⟨he, rfl⟩, fun hv => by simp [isVar] at hv⟩
      · exact Keeps.same (hko q eq) (by rw [e1]) (by rw [e2])
    refine h.step hG hK himm h.sz (fun t => .inl ⟨rfl, rfl⟩) h.df (fun q g' o hq => ?_) ?_ ?_ h.fr hfresh
    · by_cases eq : q = k
      · subst eq
        rw [hkk] at hq
        cases hq
        right
        rcases hnew with hn | ⟨b, cs, ty, h1, h2, h3, h4, h5, h6, h7⟩
        · exact .inl hn
        · exact .inr ⟨b, cs, ty, h1, h2, h3, h4, h5, h6, h7⟩
      · rw [hko q eq] at hq
        refine .inl ⟨hq, by rw [e1], by rw [e2], fun ho b hb => ⟨rfl, hoth b (fun hb' => eq ?_)⟩⟩
        exact h.sep q k g' g o _ b hq hk ho rfl hb hb'
    · intro q q' g1 g2 o1 o2 b hq hq' ho1 ho2 hb hb'
      rw [e1] at hb hb'
      by_cases eq : q = k
      · by_cases eq' : q' = k
        · rw [eq, eq']
        · subst eq
          rw [hko q' eq'] at hq'
          exact h.sep q q' g g2 _ o2 b hk hq' rfl ho2 hb hb'
      · by_cases eq' : q' = k
        · subst eq'
          rw [hko q eq] at hq
          exact h.sep q q' g1 g o1 _ b hq hk ho1 rfl hb hb'
        · rw [hko q eq] at hq
          rw [hko q' eq'] at hq'
          exact h.sep q q' g1 g2 o1 o2 b hq hq' ho1 ho2 hb hb'
    · intro q g1 o1 b hq ho1 hb
      rw [e1] at hb
      by_cases eq : q = k
      · subst eq
        exact h.new q g _ b hk rfl hb
      · rw [hko q eq] at hq
        exact h.new q g1 o1 b hq ho1 hb
  rcases hob with ⟨h1, h2, h3⟩ | ⟨b, cs, ty, hb, hh, hl, hc, hwd, hr, hg⟩
  · exact ⟨c, mk c rfl rfl (Gh.le_refl _) h.imm (fun _ _ _ => rfl) h.fresh (.inl ⟨h1, h2, h3⟩), Gh.le_refl _, rfl, rfl⟩
  · have hg : ∀ o, c.G b o = none := by simpa using hg
    let c' : Con := { ρ := c.ρ, cp := c.cp, G := fun b' o => if b' = b ∧ o < xs.length * e then cs[o]? else c.G b' o }
    have hG : Gh.le c.G c'.G := fun b' o v hv => by
      show (if b' = b ∧ o < xs.length * e then cs[o]? else c.G b' o) = some v
      rw [if_neg (fun hh' => by rw [hh'.1, hg] at hv; cases hv)]
      exact hv
    refine ⟨c', mk c' rfl rfl hG (fun b' o v hv => ?_) (fun b' hb' i => ?_) (fun b' o hne => ?_) (.inr ⟨b, cs, ty, hb, hh, hl, hc, hwd, fun j x i y hx hy => (hr j x i y hx hy).mono hG, ?_⟩), hG, rfl, rfl⟩
    · have hv : (if b' = b ∧ o < xs.length * e then cs[o]? else c.G b' o) = some v := hv
      split at hv
      · rename_i q
        rw [q.1, cell_of_blk hh]
        exact hv
      · exact h.imm b' o v hv
    · show (if b' = b ∧ i < xs.length * e then cs[i]? else c.G b' i) = c.G b' i
      rw [if_neg]
      exact fun q => hb' (by rw [q.1]; exact hb)
    · by_cases q : b' = b
      · subst q
        exact h.new k g _ b' hk rfl hb
      · refine h.fresh b' o fun e2 => hne ?_
        show (if b' = b ∧ o < xs.length * e then cs[o]? else c.G b' o) = G0 b' o
        rw [if_neg (fun q2 => q q2.1)]
        exact e2
    · rw [if_neg (by simp)]
      refine ⟨fun o ho => ?_, fun o ho => ?_⟩
      · show (if b = b ∧ o < xs.length * e then cs[o]? else c.G b o) = cs[o]?
        rw [if_pos ⟨rfl, ho⟩]
      · show (if b = b ∧ o < xs.length * e then cs[o]? else c.G b o) = none
        rw [if_neg (by omega), hg]
/-- Rows that one may read for ever. -/
theorem Rel.read_row (h : Rel w0 S0 G0 σ c a w) {k g e : Nat} {o : AObj} {xs : List (List PV)} (hk : σ.ob k = (g, some o)) (hx : o = .row false e xs ∨ o = .view e xs) : Rep c.G (.list e xs) (rowVal (c.ρ k) xs.length (c.cp k)) := by
  have main : ∀ b, c.ρ k = some b → xs.length ≤ c.cp k → Wide e xs → (∀ (j : Nat) (x : List PV) (i : Nat) (y : PV), xs[j]? = some x → x[i]? = some y → ∃ v, c.G b (j * e + i) = some v ∧ Rep c.G y v) → Rep c.G (.list e xs) (rowVal (c.ρ k) xs.length (c.cp k)) := by
    intro b hb hl hw hr
    rw [hb]
    refine Rep.list e xs b 0 (c.cp k) (fun j i => (c.G b (j * e + i)).getD undef) hl hw (fun j x i y hx hy => ?_) (fun j x i y hx hy => ?_)
    · obtain ⟨v, h1, _⟩ := hr j x i y hx hy
      rw [Nat.zero_add, h1]
      rfl
    · obtain ⟨v, h1, h2⟩ := hr j x i y hx hy
      rw [h1]
      exact h2
  have hob := h.obs k g o hk
  rcases hx with rfl | rfl
  · rcases hob with ⟨h1, h2, h3⟩ | ⟨b, cs, ty, hb, hh, hl, hc, hwd, hr, hg⟩
    · subst h2
      rw [h1]
      exact .nil e none 0
    · rw [if_neg (by simp)] at hg
      refine main b hb hl hwd fun j x i y hx hy => ?_
      have hj := (List.getElem?_eq_some_iff.1 hx).1
      have hi := (List.getElem?_eq_some_iff.1 hy).1
      rw [hwd j x hx] at hi
      have h1 : (j + 1) * e ≤ xs.length * e := Nat.mul_le_mul_right e (by omega)
      have h2 : xs.length * e ≤ c.cp k * e := Nat.mul_le_mul_right e hl
      rw [Nat.succ_mul] at h1
      exact ⟨_, by rw [hg.1 _ (by omega)]; exact get_of_getD (by omega), hr j x i y hx hy⟩
  · rcases hob with ⟨h1, h2⟩ | ⟨b, hb, hl, hwd, hr⟩
    · subst h2
      rw [h1]
      exact .nil e none 0
    · exact main b hb hl hwd hr
/-- A row that stands still up to its end may be led on. -/
theorem Rel.read_view (h : Rel w0 S0 G0 σ c a w) {k g e : Nat} {xs : List (List PV)} (hk : σ.ob k = (g, some (.row false e xs))) : ObOk σ.ob c w k (.view e xs) := by
  rcases h.obs k g _ hk with ⟨h1, h2, h3⟩ | ⟨b, cs, ty, hb, hh, hl, hc, hwd, hr, hg⟩
  · exact .inl ⟨h1, h2⟩
  · rw [if_neg (by simp)] at hg
    refine .inr ⟨b, hb, hl, hwd, fun j x i y hx hy => ?_⟩
    have hj := (List.getElem?_eq_some_iff.1 hx).1
    have hi := (List.getElem?_eq_some_iff.1 hy).1
    rw [hwd j x hx] at hi
    have h1 : (j + 1) * e ≤ xs.length * e := Nat.mul_le_mul_right e (by omega)
    have h2 : xs.length * e ≤ c.cp k * e := Nat.mul_le_mul_right e hl
    rw [Nat.succ_mul] at h1
    exact ⟨_, by rw [hg.1 _ (by omega)]; exact get_of_getD (by omega), hr j x i y hx hy⟩
/-- The first state, but some rows stand still in the second. -/
def Frz (σ σ' : St) : Prop := σ'.slots = σ.slots ∧ ∀ q, σ'.ob q = σ.ob q ∨ ∃ g e xs, σ.ob q = (g, some (.row true e xs)) ∧ σ'.ob q = (g, some (.row false e xs))
theorem Frz.refl (σ : St) : Frz σ σ := ⟨rfl, fun _ => .inl rfl⟩
/-- What a cell leads on: its plain value, and the rows that stand still from now on. -/
def atPV {α : Type} (e : Nat) (x : At) (k : PV → List (Nat × Nat × Option AObj) → RM α) : RM α := match x with
  | .pv p => k p []
  | .nil => k (.list e []) []
  | .row q g => .obj q fun r => match gone g r with
    | some (.row own e' xs) => if own = true then k (.list e' xs) [(q, g, some (.row false e' xs))] else k (.list e' xs) []
    | some (.view e' xs) => k (.list e' xs) []
    | _ => .fail
  | .ptr q g off => .obj q fun r => match gone g r with
    | some (.fro cells) => k (.ref (cells.drop off)) []
    | _ => .fail
  | _ => .fail
theorem Frz.look (h : Frz σ σ1) {q g : Nat} {o : AObj} (hq : σ.ob q = (g, some o)) : σ1.ob q = (g, some o) ∨ ∃ e xs, o = .row true e xs ∧ σ1.ob q = (g, some (.row false e xs)) := by
  rcases h.2 q with h1 | ⟨g', e, xs, h1, h2⟩
  · exact .inl (h1.trans hq)
  · rw [hq] at h1
    cases h1
    exact .inr ⟨e, xs, rfl, h2⟩
theorem val_atPV {α : Type} {e : Nat} {x : At} {k : PV → List (Nat × Nat × Option AObj) → RM α} {r : α} (h : (atPV e x k).val σ = some r) :
    ∃ p us, (k p us).val σ = some r ∧ ∀ σ1, Frz σ σ1 → Frz σ (σ1.lays us) ∧ ∀ w0 S0 G0 c a w, Rel w0 S0 G0 σ1 c a w → ∃ c', Rel w0 S0 G0 (σ1.lays us) c' a w ∧ Gh.le c.G c'.G ∧ c'.ρ = c.ρ ∧ c'.cp = c.cp ∧ ∀ v, RepAt σ1.ob c x v → Rep c'.G p v := by
  have still : ∀ p, (k p []).val σ = some r → (∀ σ1, Frz σ σ1 → ∀ w0 S0 G0 c a w, Rel w0 S0 G0 σ1 c a w → ∀ v, RepAt σ1.ob c x v → Rep c.G p v) →
      ∃ p us, (k p us).val σ = some r ∧ ∀ σ1, Frz σ σ1 → Frz σ (σ1.lays us) ∧ ∀ w0 S0 G0 c a w, Rel w0 S0 G0 σ1 c a w → ∃ c', Rel w0 S0 G0 (σ1.lays us) c' a w ∧ Gh.le c.G c'.G ∧ c'.ρ = c.ρ ∧ c'.cp = c.cp ∧ ∀ v, RepAt σ1.ob c x v → Rep c'.G p v :=
    fun p h1 h2 => ⟨p, [], h1, fun σ1 hf => ⟨hf, fun w0 S0 G0 c a w hR => ⟨c, hR, Gh.le_refl _, rfl, rfl, h2 σ1 hf w0 S0 G0 c a w hR⟩⟩⟩
  cases x with
  | pv p => exact still p h fun σ1 _ w0 S0 G0 c a w _ v hv => hv
  | nil => exact still _ h fun σ1 _ w0 S0 G0 c a w _ v hv => by have hv : v = .slice none 0 0 := hv; rw [hv]; exact .nil _ _ _
  | any => simp [atPV, RM.val] at h
  | eptr q g j off => simp [atPV, RM.val] at h
  | ptr q g off =>
    simp only [atPV, RM.val] at h
    cases hq : gone g (σ.ob q) with
    | none => rw [hq] at h; simp [RM.val] at h
    | some o =>
      rw [hq] at h
      have hob := gone_some hq
      cases o with
      | fro cells =>
        refine still _ h fun σ1 hf w0 S0 G0 c a w hR v hv => ?_
        rcases hf.look hob with h1 | ⟨_, _, h1, _⟩
        · obtain ⟨b, hb, e1⟩ := hv.2 (by rw [alive_of h1]; rfl)
          obtain ⟨b', hb', hr⟩ := hR.obs q g _ h1
          rw [hb] at hb'; cases hb'
          rw [e1]
          refine Rep.ref (cells.drop off) b off (fun i => (c.G b (off + i)).getD undef) (fun i p hp => ?_) (fun i p hp => ?_)
          · rw [List.getElem?_drop] at hp
            obtain ⟨v, h2, _⟩ := hr _ _ hp
            rw [h2]; rfl
          · rw [List.getElem?_drop] at hp
            obtain ⟨v, h2, h3⟩ := hr _ _ hp
            rw [h2]; exact h3
        · cases h1
      | blk cells => simp [RM.val] at h
      | row own e1 xs => simp [RM.val] at h
      | view e1 xs => simp [RM.val] at h
  | row q g =>
    simp only [atPV, RM.val] at h
    cases hq : gone g (σ.ob q) with
    | none => rw [hq] at h; simp [RM.val] at h
    | some o =>
      rw [hq] at h
      have hob := gone_some hq
      cases o with
      | fro cells => simp [RM.val] at h
      | blk cells => simp [RM.val] at h
      | view e1 xs =>
        refine still _ h fun σ1 hf w0 S0 G0 c a w hR v hv => ?_
        rcases hf.look hob with h1 | ⟨_, _, h1, _⟩
        · rw [hv.2 xs.length (by rw [alive_of h1]; rfl)]
          exact hR.read_row h1 (.inr rfl)
        · cases h1
      | row own e1 xs =>
        dsimp only at h
        split at h
        case isFalse ho =>
          have ho : own = false := by simpa using ho
          subst ho
          refine still _ h fun σ1 hf w0 S0 G0 c a w hR v hv => ?_
          rcases hf.look hob with h1 | ⟨_, _, h1, _⟩
          · rw [hv.2 xs.length (by rw [alive_of h1]; rfl)]
            exact hR.read_row h1 (.inl rfl)
          · cases h1
        case isTrue ho =>
          subst ho
          refine ⟨_, _, h, fun σ1 hf => ⟨⟨hf.1, fun q' => ?_⟩, fun w0 S0 G0 c a w hR => ?_⟩⟩
          · rw [ob_lays1]
            split
            · rename_i e2; subst e2; exact .inr ⟨g, e1, xs, hob, rfl⟩
            · exact hf.2 q'
          · rcases hf.look hob with h1 | ⟨e2, xs2, h1, h2⟩
            · obtain ⟨c', hR', hG, e3, e4⟩ := hR.freeze h1
              refine ⟨c', hR', hG, e3, e4, fun v hv => ?_⟩
              rw [hv.2 xs.length (by rw [alive_of h1]; rfl), ← e3, ← e4]
              exact hR'.read_row (by rw [ob_lays1, if_pos rfl]) (.inl rfl)
            · cases h1
              refine ⟨c, hR.congr rfl (fun q' => ?_), Gh.le_refl _, rfl, rfl, fun v hv => ?_⟩
              · rw [ob_lays1]
                split
                · rename_i e2; subst e2; exact h2.symm
                · rfl
              · rw [hv.2 xs.length (by rw [alive_of h2]; rfl)]
                exact hR.read_row h2 (.inl rfl)
end Go.Eng
