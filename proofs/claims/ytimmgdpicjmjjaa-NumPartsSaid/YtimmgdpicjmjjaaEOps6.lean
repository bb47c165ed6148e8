/- The engine, part 8: contracts, calls. -/
import Derived.Test.YtimmgdpicjmjjaaEOps5
namespace Go.Eng
open Go.RowKit
set_option linter.unusedVariables false
set_option linter.unusedSimpArgs false
variable {ob : Obs} {c c' : Con} {w w' w0 : World} {S0 : Nat → Prop} {G0 G : Gh} {σ σ' σ1 : St} {a a' : Act} {P : Program}
theorem lays_append (σ : St) (u v : List (Nat × Nat × Option AObj)) : σ.lays (u ++ v) = (σ.lays u).lays v := by
  unfold St.lays
  rw [List.foldl_append]
theorem Frz.keeps {σ2 : St} (h1 : Frz σ σ1) (h2 : Frz σ σ2) (e1 : c'.ρ = c.ρ) (e2 : c'.cp = c.cp) (q : Nat) : Keeps σ1.ob σ2.ob c c' q := by
  have gen : ∀ {σ' : St}, Frz σ σ' → (σ'.ob q).1 = (σ.ob q).1 ∧ rowLen (σ'.ob q).2 = rowLen (σ.ob q).2 ∧ rowE (σ'.ob q).2 = rowE (σ.ob q).2 ∧ isVar (σ'.ob q).2 = isVar (σ.ob q).2 := fun h => by
    rcases h.2 q with h | ⟨g, e, xs, a, b⟩
    · rw [h]; exact ⟨rfl, rfl, rfl, rfl⟩
    · rw [a, b]; exact ⟨rfl, rfl, rfl, rfl⟩
  obtain ⟨a1, a2, a3, a4⟩ := gen h1
  obtain ⟨b1, b2, b3, b4⟩ := gen h2
  exact .inr ⟨by rw [b1, a1], fun n hn => ⟨by rw [a2, ← b2]; exact hn, by rw [e1], by rw [e2]⟩, fun n hn => ⟨by rw [a3, ← b3]; exact hn, by rw [e1]⟩, fun hv => ⟨by rw [a4, ← b4]; exact hv, by rw [e1]⟩⟩
def atPVs {α : Type} : List Nat → List At → (List PV → List (Nat × Nat × Option AObj) → RM α) → RM α
  | _, [], k => k [] []
  | es, x :: l, k => atPV (es.headD 0) x fun p us => atPVs es.tail l fun ps us' => k (p :: ps) (us ++ us')
theorem val_atPVs {α : Type} {r : α} : ∀ {l : List At} {es : List Nat} {k : List PV → List (Nat × Nat × Option AObj) → RM α}, (atPVs es l k).val σ = some r →
    ∃ ps us, (k ps us).val σ = some r ∧ ps.length = l.length ∧ ∀ σ1, Frz σ σ1 → Frz σ (σ1.lays us) ∧ ∀ w0 S0 G0 c a w, Rel w0 S0 G0 σ1 c a w → ∃ c', Rel w0 S0 G0 (σ1.lays us) c' a w ∧ Gh.le c.G c'.G ∧ c'.ρ = c.ρ ∧ c'.cp = c.cp ∧
      ∀ (i : Nat) (x : At) (v : Value), l[i]? = some x → RepAt σ1.ob c x v → ∃ p : PV, ps[i]? = some p ∧ Rep c'.G p v
  | [], es, k, h => ⟨[], [], h, rfl, fun σ1 hf => ⟨hf, fun w0 S0 G0 c a w hR => ⟨c, hR, Gh.le_refl _, rfl, rfl, fun i x v hx => by simp at hx⟩⟩⟩
  | x :: l, es, k, h => by
    obtain ⟨p, us, h1, H1⟩ := val_atPV h
    obtain ⟨ps, us', h2, hl, H2⟩ := val_atPVs h1
    refine ⟨p :: ps, us ++ us', h2, by simp [hl], fun σ1 hf => ?_⟩
    obtain ⟨f1, R1⟩ := H1 σ1 hf
    obtain ⟨f2, R2⟩ := H2 _ f1
    rw [lays_append]
    refine ⟨f2, fun w0 S0 G0 c a w hR => ?_⟩
    obtain ⟨c1, hR1, g1, e1, e2, v1⟩ := R1 w0 S0 G0 c a w hR
    obtain ⟨c2, hR2, g2, e3, e4, v2⟩ := R2 w0 S0 G0 c1 a w hR1
    refine ⟨c2, hR2, Gh.le_trans g1 g2, e3.trans e1, e4.trans e2, fun i y v hy hv => ?_⟩
    cases i with
    | zero => simp at hy; subst hy; exact ⟨p, rfl, (v1 v hv).mono g2⟩
    | succ i =>
      simp only [List.getElem?_cons_succ] at hy ⊢
      exact v2 i y v hy (RepAt.keep g1 (Frz.keeps hf f1 e1 e2) hv)
/-- What goes into a call. -/
inductive PA where
  | at (p : PV)
  | agg (ps : List PV)
def RepPA (G : Gh) : PA → Value → Prop
  | .at p, v => Rep G p v
  | .agg ps, v => ∃ cs : Array Value, v = .agg cs ∧ cs.size = ps.length ∧ ∀ i p, ps[i]? = some p → Rep G p (cs.getD i undef)
theorem RepPA.mono {G' : Gh} (h : Gh.le G G') {x : PA} {v : Value} (r : RepPA G x v) : RepPA G' x v := by
  cases x with
  | «at» p => exact Rep.mono h r
  | agg ps => obtain ⟨cs, e, hl, hr⟩ := r; exact ⟨cs, e, hl, fun i p hp => (hr i p hp).mono h⟩
def argPA {α : Type} (es : List Nat) (y : V1) (k : PA → List (Nat × Nat × Option AObj) → RM α) : RM α := match y with
  | .at x => atPV (es.headD 0) x fun p us => k (.at p) us
  | .agg l => atPVs es l fun ps us => k (.agg ps) us
theorem val_argPA {α : Type} {es : List Nat} {y : V1} {k : PA → List (Nat × Nat × Option AObj) → RM α} {r : α} (h : (argPA es y k).val σ = some r) :
    ∃ p us, (k p us).val σ = some r ∧ ∀ σ1, Frz σ σ1 → Frz σ (σ1.lays us) ∧ ∀ w0 S0 G0 c a w, Rel w0 S0 G0 σ1 c a w → ∃ c', Rel w0 S0 G0 (σ1.lays us) c' a w ∧ Gh.le c.G c'.G ∧ c'.ρ = c.ρ ∧ c'.cp = c.cp ∧ ∀ v, RepV1 σ1.ob c y v → RepPA c'.G p v := by
  cases y with
  | «at» x =>
    obtain ⟨p, us, h1, H⟩ := val_atPV h
    exact ⟨.at p, us, h1, H⟩
  | agg l =>
    obtain ⟨ps, us, h1, hl, H⟩ := val_atPVs h
    refine ⟨.agg ps, us, h1, fun σ1 hf => ?_⟩
    obtain ⟨f1, R1⟩ := H σ1 hf
    refine ⟨f1, fun w0 S0 G0 c a w hR => ?_⟩
    obtain ⟨c1, hR1, g1, e1, e2, v1⟩ := R1 w0 S0 G0 c a w hR
    refine ⟨c1, hR1, g1, e1, e2, fun v hv => ?_⟩
    obtain ⟨cs, e, hs, hr⟩ := hv
    refine ⟨cs, e, by rw [hs, hl], fun i p hp => ?_⟩
    have hi := (List.getElem?_eq_some_iff.1 hp).1
    obtain ⟨x, hx⟩ : ∃ x, l[i]? = some x := ⟨l[i]'(by omega), List.getElem?_eq_getElem (by omega)⟩
    obtain ⟨p', hp', hrep⟩ := v1 i x _ hx (hr i x hx)
    rw [hp] at hp'
    cases hp'
    exact hrep
/-- What comes out of a call: rows that are the caller's own, under names that the caller gives. -/
inductive RA where
  | pv (p : PV)
  | row (key e : Nat) (xs : List (List PV))
inductive R1 where
  | at (x : RA)
  | agg (l : List RA)
inductive RT where
  | one (x : R1)
  | tup (l : List R1)
def R1.atoms : R1 → List RA
  | .at x => [x]
  | .agg l => l
def RT.atoms : RT → List RA
  | .one x => x.atoms
  | .tup l => l.flatMap R1.atoms
def RepRA (c : Con) : RA → Value → Prop
  | .pv p, v => Rep c.G p v
  | .row key e xs, v => v = rowVal (c.ρ key) xs.length (c.cp key)
def RepR1 (c : Con) : R1 → Value → Prop
  | .at x, v => RepRA c x v
  | .agg l, v => ∃ cs : Array Value, v = .agg cs ∧ cs.size = l.length ∧ ∀ i x, l[i]? = some x → RepRA c x (cs.getD i undef)
def RepRT (c : Con) : RT → Value → Prop
  | .one x, v => RepR1 c x v
  | .tup l, v => ∃ vs : Array Value, v = .tuple vs ∧ vs.size = l.length ∧ ∀ i x, l[i]? = some x → RepR1 c x (vs.getD i undef)
def obs0 : Obs := fun _ => (0, none)
/-- The end of a call. -/
structure Ends (w : World) (G : Gh) (res : RT) (v : Value) (c : Con) (w' : World) : Prop where
  le : Gh.le G c.G
  imm : ∀ b o v, c.G b o = some v → w'.cell? ⟨b, o, none⟩ = some v
  fresh : ∀ b o, c.G b o ≠ G b o → w.heap.size ≤ b
  below : Below w.heap.size w w'
  rep : RepRT c res v
  row : ∀ key e xs, RA.row key e xs ∈ res.atoms → ObOk obs0 c w' key (.row true e xs) ∧ ∀ b, c.ρ key = some b → w.heap.size ≤ b
  uniq : ∀ key e xs e' xs', RA.row key e xs ∈ res.atoms → RA.row key e' xs' ∈ res.atoms → e = e' ∧ xs = xs'
  sep : ∀ key e xs key' e' xs' b, RA.row key e xs ∈ res.atoms → RA.row key' e' xs' ∈ res.atoms → c.ρ key = some b → c.ρ key' = some b → key = key'
/-- A contract. -/
def Spec (P : Program) (f : FuncId) (args : List PA) (res : RT) : Prop :=
  ∀ (w : World) (G : Gh) (vs : Array Value), (∀ b o v, G b o = some v → w.cell? ⟨b, o, none⟩ = some v) → vs.size = args.length → (∀ i x, args[i]? = some x → RepPA G x (vs.getD i undef)) →
    Calls P f vs w fun e w' => ∃ v c, e = .returned v ∧ Ends w G res v c w'
/-- A result, as it stands in a state whose names are so old. -/
def raAt (g : Nat → Nat) : RA → At
  | .pv p => .pv p
  | .row key e xs => .row key (g key + 1)
def r1V (g : Nat → Nat) : R1 → V1
  | .at x => .at (raAt g x)
  | .agg l => .agg (l.map (raAt g))
def rtAV (g : Nat → Nat) : RT → AV
  | .one x => .one (r1V g x)
  | .tup l => .tup (l.map (r1V g))
def raUpd (g : Nat → Nat) : List RA → List (Nat × Nat × Option AObj)
  | [] => []
  | .pv _ :: l => raUpd g l
  | .row key e xs :: l => (key, g key + 1, some (.row true e xs)) :: raUpd g l
theorem raUpd_mem {g : Nat → Nat} : ∀ {l : List RA} {u : Nat × Nat × Option AObj}, u ∈ raUpd g l → ∃ key e xs, RA.row key e xs ∈ l ∧ u = (key, g key + 1, some (.row true e xs))
  | .pv p :: l, u, h => by
    obtain ⟨key, e, xs, h1, h2⟩ := raUpd_mem (l := l) h
    exact ⟨key, e, xs, .tail _ h1, h2⟩
  | .row key e xs :: l, u, h => by
    rcases List.mem_cons.1 h with h | h
    · exact ⟨key, e, xs, .head _, h⟩
    · obtain ⟨key, e, xs, h1, h2⟩ := raUpd_mem (l := l) h
      exact ⟨key, e, xs, .tail _ h1, h2⟩
theorem raUpd_row {g : Nat → Nat} : ∀ {l : List RA} {key e : Nat} {xs : List (List PV)}, RA.row key e xs ∈ l → (key, g key + 1, some (.row true e xs)) ∈ raUpd g l
  | .pv p :: l, key, e, xs, h => by
    rcases List.mem_cons.1 h with h | h
    · cases h
    · exact raUpd_row (l := l) h
  | .row k' e' xs' :: l, key, e, xs, h => by
    rcases List.mem_cons.1 h with h | h
    · cases h; exact .head _
    · exact .tail _ (raUpd_row (l := l) h)
/-- What lies there behind many layings: what was laid last, or what was there. -/
theorem ob_lays : ∀ (us : List (Nat × Nat × Option AObj)) (σ : St) (q : Nat), (∃ u ∈ us, u.1 = q ∧ (σ.lays us).ob q = u.2) ∨ ((∀ u ∈ us, u.1 ≠ q) ∧ (σ.lays us).ob q = σ.ob q)
  | [], σ, q => .inr ⟨by simp, rfl⟩
  | u :: us, σ, q => by
    have e : σ.lays (u :: us) = (σ.lays [u]).lays us := rfl
    rw [e]
    rcases ob_lays us (σ.lays [u]) q with ⟨u', h1, h2, h3⟩ | ⟨h1, h2⟩
    · exact .inl ⟨u', .tail _ h1, h2, h3⟩
    · rw [h2]
      have e2 := ob_lays1 σ u.1 u.2 q
      by_cases h : u.1 = q
      · left
        exact ⟨u, .head _, h, by rw [show (σ.lays [u]).ob q = _ from e2, if_pos h]⟩
      · right
        refine ⟨fun u' hu => ?_, by rw [show (σ.lays [u]).ob q = _ from e2, if_neg h]⟩
        rcases List.mem_cons.1 hu with rfl | hu
        · exact h
        · exact h1 u' hu
/-- Behind a call: its results stand in the caller's state. -/
theorem Rel.call (h : Rel w0 S0 G0 σ c a w) {res : RT} {v : Value} {c1 : Con} (he : Ends w c.G res v c1 w') (d : Option Nat) :
    ∃ c', Rel w0 S0 G0 ((σ.lays (raUpd (fun q => (σ.ob q).1) res.atoms)).put d (rtAV (fun q => (σ.ob q).1) res)) c' (a.put d v) w' := by
  let isR : Nat → Prop := fun q => ∃ e xs, RA.row q e xs ∈ res.atoms
  let g : Nat → Nat := fun q => (σ.ob q).1
  have dec : ∀ q, Decidable (isR q) := fun q => Classical.propDecidable _
  let c' : Con := { ρ := fun q => if isR q then c1.ρ q else c.ρ q, cp := fun q => if isR q then c1.cp q else c.cp q, G := c1.G }
  let σ2 := (σ.lays (raUpd g res.atoms)).put d (rtAV g res)
  have hin : ∀ q, isR q → ∃ e xs, RA.row q e xs ∈ res.atoms ∧ σ2.ob q = (g q + 1, some (.row true e xs)) := fun q hq => by
    obtain ⟨e, xs, hm⟩ := hq
    have hm' := raUpd_row (g := g) hm
    rcases ob_lays (raUpd g res.atoms) σ q with ⟨u, h1, h2, h3⟩ | ⟨h1, h2⟩
    · obtain ⟨key, e', xs', h4, rfl⟩ := raUpd_mem h1
      simp only at h2
      subst h2
      exact ⟨e', xs', h4, by rw [St.ob_put]; exact h3⟩
    · exact absurd rfl (h1 _ hm')
  have hout : ∀ q, ¬ isR q → σ2.ob q = σ.ob q := fun q hq => by
    rw [St.ob_put]
    rcases ob_lays (raUpd g res.atoms) σ q with ⟨u, h1, h2, h3⟩ | ⟨h1, h2⟩
    · obtain ⟨key, e', xs', h4, rfl⟩ := raUpd_mem h1
      simp only at h2
      subst h2
      exact absurd ⟨e', xs', h4⟩ hq
    · exact h2
  have ρin : ∀ q, isR q → c'.ρ q = c1.ρ q := fun q hq => if_pos hq
  have ρout : ∀ q, ¬ isR q → c'.ρ q = c.ρ q := fun q hq => if_neg hq
  have cpin : ∀ q, isR q → c'.cp q = c1.cp q := fun q hq => if_pos hq
  have cpout : ∀ q, ¬ isR q → c'.cp q = c.cp q := fun q hq => if_neg hq
  have hK : ∀ q, Keeps σ.ob σ2.ob c c' q := fun q => by
    by_cases hq : isR q
    · obtain ⟨e, xs, _, h2⟩ := hin q hq
      left; rw [h2]; exact Nat.lt_succ_self _
    · exact Keeps.same (hout q hq) (ρout q hq) (cpout q hq)
  have hRA : ∀ x ∈ res.atoms, ∀ u, RepRA c1 x u → RepAt σ2.ob c' (raAt g x) u := fun x hx u hu => by
    cases x with
    | pv p => exact hu
    | row key e xs =>
      have hr : isR key := ⟨e, xs, hx⟩
      obtain ⟨e2, xs2, hm, h2⟩ := hin key hr
      refine ⟨by rw [h2]; exact Nat.le_refl _, fun n hn => ?_⟩
      obtain ⟨rfl, rfl⟩ := he.uniq key e xs e2 xs2 hx hm
      rw [alive_of h2] at hn
      simp only [rowLen, Option.some.injEq] at hn
      have hu : u = rowVal (c1.ρ key) xs.length (c1.cp key) := hu
      rw [ρin key hr, cpin key hr, hu, ← hn]
  have hsub : ∀ {x : R1}, (∀ y ∈ x.atoms, y ∈ res.atoms) → ∀ u, RepR1 c1 x u → RepV1 σ2.ob c' (r1V g x) u := fun {x} hx u hu => by
    cases x with
    | «at» y => exact hRA y (hx y (by simp [R1.atoms])) u hu
    | agg l =>
      obtain ⟨cs, e, hl, hr⟩ := hu
      refine ⟨cs, e, by simp [hl], fun i y hy => ?_⟩
      obtain ⟨z, hz, rfl⟩ := map_get hy
      exact hRA z (hx z (List.mem_of_getElem? hz)) _ (hr i z hz)
  have hval : RepAV σ2.ob c' (rtAV g res) v := by
    have hrep := he.rep
    cases hres : res with
    | one x =>
      rw [hres] at hrep
      exact hsub (x := x) (by rw [hres]; exact fun y hy => hy) v hrep
    | tup l =>
      rw [hres] at hrep
      obtain ⟨vs, e, hl, hr⟩ := hrep
      refine ⟨vs, e, by simp [hl], fun i y hy => ?_⟩
      obtain ⟨z, hz, rfl⟩ := map_get hy
      refine hsub (x := z) (fun y hy => ?_) _ (hr i z hz)
      rw [hres]
      exact List.mem_flatMap.2 ⟨z, List.mem_of_getElem? hz, hy⟩
  have hblock : ∀ b, b < w.heap.size → w'.heap[b]? = w.heap[b]? := he.below.block
  have hGold : ∀ b i, b < w.heap.size → c'.G b i = c.G b i := fun b i hb => by
    by_cases e : c1.G b i = c.G b i
    · exact e
    · exact absurd (he.fresh b i e) (by omega)
  refine ⟨c', h.step (σ' := σ2) he.le hK he.imm (by rw [St.len_put, Act.size_put]; exact h.sz) ?_ (by rw [Act.defers_put]; exact h.df) (fun q g1 o hq => ?_) ?_ ?_ ?_ ?_⟩
  · exact slot_put' (P := fun _ => True) (σ := σ.lays (raUpd g res.atoms)) h.sz d _ v hval
  · by_cases hr : isR q
    · obtain ⟨e, xs, hm, h2⟩ := hin q hr
      rw [h2] at hq
      cases hq
      right
      have := (he.row q e xs hm).1
      rcases this with ⟨q1, q2, q3⟩ | ⟨b, cs, ty, r1, r2, r3, r4, r5, r6, r7⟩
      · exact .inl ⟨by rw [ρin q hr, q1], q2, by rw [cpin q hr, q3]⟩
      · exact .inr ⟨b, cs, ty, by rw [ρin q hr, r1], r2, by rw [cpin q hr]; exact r3, by rw [cpin q hr]; exact r4, r5, r6, r7⟩
    · rw [hout q hr] at hq
      refine .inl ⟨hq, ρout q hr, cpout q hr, fun ho b hb => ?_⟩
      have := h.blk_lt hq ho hb
      exact ⟨hblock b this, fun i => hGold b i this⟩
  · intro q q' g1 g2 o1 o2 b hq hq' ho1 ho2 hb hb'
    by_cases hr : isR q
    · obtain ⟨e, xs, hm, h2⟩ := hin q hr
      rw [ρin q hr] at hb
      by_cases hr' : isR q'
      · obtain ⟨e', xs', hm', h2'⟩ := hin q' hr'
        rw [ρin q' hr'] at hb'
        exact he.sep q e xs q' e' xs' b hm hm' hb hb'
      · rw [hout q' hr'] at hq'
        rw [ρout q' hr'] at hb'
        have := h.blk_lt hq' ho2 hb'
        have := (he.row q e xs hm).2 b hb
        omega
    · rw [hout q hr] at hq
      rw [ρout q hr] at hb
      have l1 := h.blk_lt hq ho1 hb
      by_cases hr' : isR q'
      · obtain ⟨e', xs', hm', h2'⟩ := hin q' hr'
        rw [ρin q' hr'] at hb'
        have := (he.row q' e' xs' hm').2 b hb'
        omega
      · rw [hout q' hr'] at hq'
        rw [ρout q' hr'] at hb'
        exact h.sep q q' g1 g2 o1 o2 b hq hq' ho1 ho2 hb hb'
  · intro q g1 o1 b hq ho1 hb
    by_cases hr : isR q
    · obtain ⟨e, xs, hm, h2⟩ := hin q hr
      rw [ρin q hr] at hb
      have := (he.row q e xs hm).2 b hb
      have := h.fr.size
      left; omega
    · rw [hout q hr] at hq
      rw [ρout q hr] at hb
      exact h.new q g1 o1 b hq ho1 hb
  · exact h.fr.trans (Fr.of_below (S := fun _ => False) he.below) (fun _ _ h => h.elim)
  · intro b o hne
    by_cases e : c1.G b o = c.G b o
    · exact h.fresh b o (by rw [← e]; exact hne)
    · have := he.fresh b o e
      have := h.fr.size
      left; omega
def argPAs {α : Type} : List (List Nat) → List Operand → (List PA → List (Nat × Nat × Option AObj) → RM α) → RM α
  | _, [], k => k [] []
  | ess, x :: l, k => opnd x fun u => match u with
    | .one y => argPA (ess.headD []) y fun p us => argPAs ess.tail l fun ps us' => k (p :: ps) (us ++ us')
    | .tup _ => .fail
theorem val_argPAs {α : Type} {r : α} : ∀ {l : List Operand} {ess : List (List Nat)} {k : List PA → List (Nat × Nat × Option AObj) → RM α}, (argPAs ess l k).val σ = some r →
    ∃ ps us, (k ps us).val σ = some r ∧ ps.length = l.length ∧ ∀ σ1, Frz σ σ1 → Frz σ (σ1.lays us) ∧ ∀ w0 S0 G0 c a w, Rel w0 S0 G0 σ1 c a w → ∃ c', Rel w0 S0 G0 (σ1.lays us) c' a w ∧ Gh.le c.G c'.G ∧ c'.ρ = c.ρ ∧ c'.cp = c.cp ∧
      ∀ (i : Nat) (x : Operand), l[i]? = some x → ∃ p : PA, ps[i]? = some p ∧ RepPA c'.G p (a.eval x)
  | [], es, k, h => ⟨[], [], h, rfl, fun σ1 hf => ⟨hf, fun w0 S0 G0 c a w hR => ⟨c, hR, Gh.le_refl _, rfl, rfl, fun i x hx => by simp at hx⟩⟩⟩
  | x :: l, es, k, h => by
    replace h := val_opnd h
    cases hu : absO σ x with
    | tup q => rw [hu] at h; simp [RM.val] at h
    | one y =>
      rw [hu] at h
      obtain ⟨p, us, h1, H1⟩ := val_argPA h
      obtain ⟨ps, us', h2, hl, H2⟩ := val_argPAs h1
      refine ⟨p :: ps, us ++ us', h2, by simp [hl], fun σ1 hf => ?_⟩
      obtain ⟨f1, R1⟩ := H1 σ1 hf
      obtain ⟨f2, R2⟩ := H2 _ f1
      rw [lays_append]
      refine ⟨f2, fun w0 S0 G0 c a w hR => ?_⟩
      obtain ⟨c1, hR1, g1, e1, e2, v1⟩ := R1 w0 S0 G0 c a w hR
      obtain ⟨c2, hR2, g2, e3, e4, v2⟩ := R2 w0 S0 G0 c1 a w hR1
      refine ⟨c2, hR2, Gh.le_trans g1 g2, e3.trans e1, e4.trans e2, fun i z hz => ?_⟩
      cases i with
      | zero =>
        simp at hz
        subst hz
        have hx := hR.opnd x
        have e5 : absO σ1 x = absO σ x := by
          cases x <;> first | rfl | (simp only [absO, St.slot]; rw [hf.1])
        rw [e5, hu] at hx
        exact ⟨p, rfl, (v1 _ hx).mono g2⟩
      | succ i =>
        simp only [List.getElem?_cons_succ] at hz ⊢
        exact v2 i z hz
end Go.Eng
