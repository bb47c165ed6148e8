/- The engine, part 5: operations that make things: variables, rows. -/
import Derived.Test.YtimmgdpicjmjjaaEOps2
namespace Go.Eng
open Go.RowKit
set_option linter.unusedVariables false
set_option linter.unusedSimpArgs false
variable {ob : Obs} {c : Con} {w w' w0 : World} {S0 : Nat → Prop} {G0 G : Gh} {σ σ' : St} {a a' : Act} {P : Program}
theorem St.ob_app1 (σ : St) (d : Option Nat) (x : AV) (k : Nat) (y : Nat × Option AObj) (q : Nat) : (σ.app d ⟨x, [(k, y)]⟩).ob q = if k = q then y else σ.ob q := by
  unfold St.app
  rw [St.ob_put]
  exact look_lay σ.obs k y q
theorem St.len_app (σ : St) (d : Option Nat) (e : Eff) : (σ.app d e).slots.length = σ.slots.length := by
  unfold St.app
  rw [St.len_put]
  rfl
theorem slot_app (hsz : σ.slots.length ≤ a.tmps.size) (d : Option Nat) (e : Eff) (v : Value) (hx : RepAV ob c e.val v) (t : Nat) :
    ((σ.app d e).slot t = σ.slot t ∧ (a.put d v).tmps.getD t undef = a.tmps.getD t undef) ∨ RepAV ob c ((σ.app d e).slot t) ((a.put d v).tmps.getD t undef) :=
  slot_put' (P := fun _ => True) (σ := σ.lays e.upd) hsz d e.val v hx t
/-- A new thing in a new block. -/
theorem Rel.fresh_ (h : Rel w0 S0 G0 σ c a w) (k : Nat) (o : AObj) (cap : Nat) (cs : Array Value) (ty : TypeId) (n : Nat) (d : Option Nat) (x : AV) (v : Value)
    (hob : ∀ (ob' : Obs) (c' : Con), ob' k = ((σ.ob k).1 + 1, some o) → (∀ q, Keeps σ.ob ob' c c' q) → Gh.le c.G c'.G → c'.ρ k = some w.heap.size → c'.cp k = cap → (∀ i, c'.G w.heap.size i = none) →
      ObOk ob' c' { w with heap := w.heap.push (.cells cs ty (0, 0)), drawn := n } k o ∧ RepAV ob' c' x v) :
    ∃ c', Rel w0 S0 G0 (σ.app d ⟨x, [(k, (σ.ob k).1 + 1, some o)]⟩) c' (a.put d v) { w with heap := w.heap.push (.cells cs ty (0, 0)), drawn := n } := by
  let c' : Con := { ρ := fun q => if q = k then some w.heap.size else c.ρ q, cp := fun q => if q = k then cap else c.cp q, G := c.G }
  have eob := St.ob_app1 σ d x k ((σ.ob k).1 + 1, some o)
  have hkk : (σ.app d ⟨x, [(k, (σ.ob k).1 + 1, some o)]⟩).ob k = ((σ.ob k).1 + 1, some o) := by rw [eob, if_pos rfl]
  have hko : ∀ q, q ≠ k → (σ.app d ⟨x, [(k, (σ.ob k).1 + 1, some o)]⟩).ob q = σ.ob q := fun q hq => by rw [eob, if_neg (fun e => hq e.symm)]
  have hρ : ∀ q, q ≠ k → c'.ρ q = c.ρ q := fun q hq => by simp [c', hq]
  have hcp : ∀ q, q ≠ k → c'.cp q = c.cp q := fun q hq => by simp [c', hq]
  have hK : ∀ q, Keeps σ.ob (σ.app d ⟨x, [(k, (σ.ob k).1 + 1, some o)]⟩).ob c c' q := fun q => by
    by_cases e : q = k
    · subst e; left; rw [hkk]; exact Nat.lt_succ_self _
    · exact Keeps.same (hko q e) (hρ q e) (hcp q e)
  have hGn : ∀ i, c'.G w.heap.size i = none := fun i => by
    show c.G w.heap.size i = none
    cases e : c.G w.heap.size i with
    | none => rfl
    | some v => exact absurd (h.gh_lt e) (Nat.lt_irrefl _)
  obtain ⟨h1, h2⟩ := hob _ c' hkk hK (Gh.le_refl _) (by simp [c']) (by simp [c']) hGn
  refine ⟨c', h.step (Gh.le_refl _) hK (fun b i v hv => ?_) (by rw [St.len_app, Act.size_put]; exact h.sz) (slot_app h.sz d _ v h2) (by rw [Act.defers_put]; exact h.df) (fun q g o' hq => ?_) ?_ ?_ ?_ h.fresh⟩
  · have := h.imm b i v hv
    have hb := h.gh_lt hv
    simpa [World.cell?, Array.getElem?_push, Nat.ne_of_lt hb] using this
  · by_cases e : q = k
    · subst e
      rw [hkk] at hq
      cases hq
      exact .inr h1
    · rw [hko q e] at hq
      refine .inl ⟨hq, hρ q e, hcp q e, fun ho b hb => ⟨?_, fun _ => rfl⟩⟩
      have := h.blk_lt hq ho hb
      simp [Array.getElem?_push, Nat.ne_of_lt this]
  · intro q q' g g' o1 o2 b hq hq' ho1 ho2 hb hb'
    by_cases e : q = k
    · by_cases e' : q' = k
      · rw [e, e']
      · subst e
        rw [hko q' e'] at hq'
        rw [hρ q' e'] at hb'
        have := h.blk_lt hq' ho2 hb'
        simp [c'] at hb
        omega
    · by_cases e' : q' = k
      · subst e'
        rw [hko q e] at hq
        rw [hρ q e] at hb
        have := h.blk_lt hq ho1 hb
        simp [c'] at hb'
        omega
      · rw [hko q e] at hq
        rw [hko q' e'] at hq'
        rw [hρ q e] at hb
        rw [hρ q' e'] at hb'
        exact h.sep q q' g g' o1 o2 b hq hq' ho1 ho2 hb hb'
  · intro q g o1 b hq ho1 hb
    by_cases e : q = k
    · subst e
      simp [c'] at hb
      have := h.fr.size
      left; omega
    · rw [hko q e] at hq
      rw [hρ q e] at hb
      exact h.new q g o1 b hq ho1 hb
  · refine ⟨h.fr.os, h.fr.tape, h.fr.output, by simp; have := h.fr.size; omega, fun q hq hs => ?_⟩
    have := h.fr.block q hq hs
    have hlt := h.fr.size
    simp only [Array.getElem?_push]
    rw [if_neg (by omega)]
    exact this
/-! ### Variables -/
def v1cells : V1 → List At
  | .at x => [x]
  | .agg l => l
/-- Is it known that this is one cell? -/
def sureAt {α : Type} (x : At) (k : RM α) : RM α := match x with
  | .pv _ => k
  | .nil => k
  | .any => .fail
  | .row q g => .obj q fun r => match rowLen (gone g r) with
    | some _ => k
    | none => .fail
  | .ptr q g _ => .obj q fun r => if isVar (gone g r) = true then k else .fail
  | .eptr q g _ _ => .obj q fun r => match rowE (gone g r) with
    | some _ => k
    | none => .fail
theorem val_sureAt {α : Type} {x : At} {k : RM α} {r : α} (h : (sureAt x k).val σ = some r) : k.val σ = some r ∧ ∀ c v, RepAt σ.ob c x v → v.oneCell' = true := by
  cases x with
  | pv p => exact ⟨h, fun c v hv => by have hv : Rep c.G p v := hv; cases hv <;> rfl⟩
  | nil => exact ⟨h, fun c v hv => by have hv : v = .slice none 0 0 := hv; rw [hv]; rfl⟩
  | any => simp [sureAt, RM.val] at h
  | row q g =>
    simp only [sureAt, RM.val] at h
    cases e : rowLen (gone g (σ.ob q)) with
    | none => rw [e] at h; simp [RM.val] at h
    | some n =>
      rw [e] at h
      exact ⟨h, fun c v hv => by rw [hv.2 n e]; unfold rowVal; split <;> rfl⟩
  | ptr q g off =>
    simp only [sureAt, RM.val] at h
    split at h
    · rename_i e
      exact ⟨h, fun c v hv => by obtain ⟨b, _, e⟩ := hv.2 e; rw [e]; rfl⟩
    · simp [RM.val] at h
  | eptr q g j off =>
    simp only [sureAt, RM.val] at h
    cases e : rowE (gone g (σ.ob q)) with
    | none => rw [e] at h; simp [RM.val] at h
    | some n =>
      rw [e] at h
      exact ⟨h, fun c v hv => by obtain ⟨b, _, e⟩ := hv.2 n e; rw [e]; rfl⟩
def sureAll {α : Type} : List At → RM α → RM α
  | [], k => k
  | x :: l, k => sureAt x (sureAll l k)
theorem val_sureAll {α : Type} {k : RM α} {r : α} : ∀ {l : List At}, (sureAll l k).val σ = some r → k.val σ = some r ∧ ∀ x ∈ l, ∀ c v, RepAt σ.ob c x v → v.oneCell' = true
  | [], h => ⟨h, by simp⟩
  | x :: l, h => by
    obtain ⟨h1, h2⟩ := val_sureAt h
    obtain ⟨h3, h4⟩ := val_sureAll h1
    refine ⟨h3, fun y hy => ?_⟩
    rcases List.mem_cons.1 hy with rfl | hy
    · exact h2
    · exact h4 y hy
def absAlloc (tab : Nat → Option Ty) (t : Nat) (d : Option Nat) : RM Eff := match d, tab t with
  | some d, some ty => .obj d fun q => .ret ⟨.one (.at (.ptr d (q.1 + 1) 0)), [(d, q.1 + 1, some (.blk ty.zero))]⟩
  | _, _ => .fail
theorem done_alloc {o : Oper} {tab : Nat → Option Ty} {t : Nat} {e : Eff} (htab : ∀ t ty, tab t = some ty → TyOk P t ty) (ho : o.op = .alloc t) (h : (absAlloc tab t o.dst).val σ = some e) : Done P w0 S0 G0 σ o e := by
  unfold absAlloc at h
  split at h
  case h_2 => simp [RM.val] at h
  case h_1 d ty hd hty =>
    simp only [RM.val, Option.some.injEq] at h
    subst h
    intro c a w hR
    obtain ⟨i, z, hi, hsz, hby, hz, hzc, hzs, hz1⟩ := (htab t ty hty).info
    refine ⟨.pointer (some ⟨w.heap.size, 0, none⟩), { w with heap := w.heap.push (.cells z.cells t (0, 0)), drawn := w.drawn }, .inl ?_, ?_⟩
    · simp [execOp, ho, Instr.alloc, zeroValue, typeInfo, hi, hz, newVar, newRow, newObj, Sem.run, noResult]
    · rw [hd]
      refine hR.fresh_ d (.blk ty.zero) 0 z.cells t w.drawn (some d) _ _ fun ob' c' h1 hK hG h2 h3 h4 => ⟨⟨w.heap.size, z.cells, t, h2, by simp, by rw [← hzc]; simp, fun i x hx => ?_, h4⟩, ?_⟩
      · rw [← hzc] at hx
        obtain ⟨u, hu, rfl⟩ := map_get hx
        rw [Array.getElem?_toList] at hu
        rw [Array.getD_eq_getD_getElem?, hu]
        exact rep_constAt u
      · exact ⟨by rw [h1]; exact Nat.le_refl _, fun _ => ⟨_, h2, rfl⟩⟩
theorem cells_of_V1 {x : V1} {v : Value} (h : RepV1 ob c x v) (h1 : ∀ y ∈ v1cells x, ∀ v, RepAt ob c y v → v.oneCell' = true) : v.cells.size = (v1cells x).length ∧ (∀ i y, (v1cells x)[i]? = some y → RepAt ob c y (v.cells.getD i undef)) ∧ v.cells.all (·.oneCell') = true := by
  cases x with
  | agg l =>
    obtain ⟨cs, rfl, hl, hr⟩ := h
    refine ⟨hl, hr, Array.all_eq_true.2 fun i hi => ?_⟩
    have hi' : i < l.length := by rw [← hl]; exact hi
    have := h1 l[i] (List.getElem_mem hi') _ (hr i _ (List.getElem?_eq_getElem hi'))
    rw [Array.getD_eq_getD_getElem?, Array.getElem?_eq_getElem (show i < cs.size from hi)] at this
    exact this
  | «at» y =>
    have hv := h1 y (by simp [v1cells]) v h
    have hc : v.cells = #[v] := by
      cases v <;> first | rfl | (simp [Value.oneCell'] at hv)
    rw [hc]
    refine ⟨rfl, fun i z hz => ?_, by simp [hv]⟩
    match i, hz with
    | 0, hz => simp [v1cells] at hz; subst hz; exact h
def absBox (x : Operand) (d : Option Nat) : RM Eff := opnd x fun v => match d, v with
  | some d, .one y => sureAll (v1cells y) (.obj d fun q => .ret ⟨.one (.at (.ptr d (q.1 + 1) 0)), [(d, q.1 + 1, some (.blk (v1cells y)))]⟩)
  | _, _ => .fail
theorem done_box {o : Oper} {t : Nat} {x : Operand} {e : Eff} (ho : o.op = .box t x) (h : (absBox x o.dst).val σ = some e) : Done P w0 S0 G0 σ o e := by
  replace h := val_opnd h
  generalize hu : absO σ x = u at h
  split at h
  case h_2 => simp [RM.val] at h
  case h_1 d y hd =>
    obtain ⟨h, h1⟩ := val_sureAll h
    simp only [RM.val, Option.some.injEq] at h
    subst h
    intro c a w hR
    have hx := hR.opnd x
    rw [hu] at hx
    obtain ⟨e1, e2, e3⟩ := cells_of_V1 (x := y) hx (fun z hz v hv => h1 z hz c v hv)
    refine ⟨.pointer (some ⟨w.heap.size, 0, none⟩), { w with heap := w.heap.push (.cells (a.eval x).cells t (0, 0)), drawn := w.drawn }, .inl ?_, ?_⟩
    · simp [execOp, ho, Instr.box, newVar, newRow, newObj, Sem.run]
    · rw [hd]
      refine hR.fresh_ d (.blk (v1cells y)) 0 _ t w.drawn (some d) _ _ fun ob' c' h1 hK hG h2 h3 h4 => ⟨⟨w.heap.size, _, t, h2, by simp, e1, fun i x hx => RepAt.keep hG hK (e2 i x hx), h4⟩, ?_⟩
      exact ⟨by rw [h1]; exact Nat.le_refl _, fun _ => ⟨_, h2, rfl⟩⟩
end Go.Eng
