/- The engine, part 11: a function's contract out of a run of its code; states that say less. -/
import Derived.Test.YtimmgdpicjmjjaaECode
namespace Go.Eng
open Go.RowKit
set_option linter.unusedVariables false
set_option linter.unusedSimpArgs false
variable {ob : Obs} {c c' : Con} {w w' w0 : World} {S0 : Nat → Prop} {G0 G : Gh} {σ σ' σ1 : St} {a a' : Act} {P : Program}
def paAV : PA → AV
  | .at p => .one (.at (.pv p))
  | .agg ps => .one (.agg (ps.map .pv))
def entry (args : List PA) (n : Nat) : St := { slots := args.map paAV ++ List.replicate (n - args.length) .any, obs := [] }
def RM.bind {α β : Type} : RM α → (α → RM β) → RM β
  | .ret a, f => f a
  | .fail, _ => .fail
  | .slot t k, f => .slot t fun v => (k v).bind f
  | .obj q k, f => .obj q fun v => (k v).bind f
theorem RM.val_bind {α β : Type} (f : α → RM β) : ∀ m : RM α, (m.bind f).val σ = (m.val σ).bind fun x => (f x).val σ
  | .ret a => rfl
  | .fail => rfl
  | .slot t k => RM.val_bind f (k (σ.slot t))
  | .obj q k => RM.val_bind f (k (σ.ob q))
def resVal (E : Env) : ResultVar → RM V1
  | .tmp t => .slot t fun v => match v with
    | .one y => .ret y
    | _ => .fail
  | .cell q t => (absLoad E.tab t (.tmp q)).bind fun e => match e.val with
    | .one y => .ret y
    | _ => .fail
def readRes (tmps : Array Value) : ResultVar → Sem Value
  | .tmp t => pure (tmps.getD t undef)
  | .cell q t => do loadVar t (← asAddr (tmps.getD q undef))
theorem res_val {E : Env} (hE : EnvOk P E) {r : ResultVar} {y : V1} (h : (resVal E r).val σ = some y) (hR : Rel w0 S0 G0 σ c a w) : ∃ v, (readRes a.tmps r).run P w = .ok v w ∧ RepV1 σ.ob c y v := by
  cases r with
  | tmp t =>
    simp only [resVal, RM.val] at h
    split at h
    case h_2 => simp [RM.val] at h
    case h_1 z hz =>
      simp only [RM.val, Option.some.injEq] at h
      subst h
      have := hR.slots t
      rw [hz] at this
      exact ⟨_, rfl, this⟩
  | cell q t =>
    simp only [resVal] at h
    rw [RM.val_bind] at h
    obtain ⟨e, h1, h2⟩ := Option.bind_eq_some_iff.1 h
    split at h2
    case h_2 => simp [RM.val] at h2
    case h_1 z hz =>
      simp only [RM.val, Option.some.injEq] at h2
      subst h2
      obtain ⟨_, v, h3, h4⟩ := load_run (P := P) hE.tab h1 hR
      rw [hz] at h4
      refine ⟨v, ?_, h4⟩
      simp only [readRes, Act.eval, Instr.loadAt, Instr.sureAddr] at h3 ⊢
      cases hv : a.tmps.getD q undef <;> rw [hv] at h3 <;> first | (simp [stuck] at h3; done) | skip
      rename_i x
      cases x with
      | none => simp [stuck] at h3
      | some x => simpa [asAddr] using h3
/-- One cell of a result: the row that is handed on as one's own, under the name that the caller gives; or what it leads to. -/
def retAt {α : Type} (own : Option Nat) (key e : Nat) (x : At) (k : RA → List (Nat × Nat × Option AObj) → RM α) : RM α := match own, x with
  | some q0, .row q g => if q = q0 then .obj q fun r => match gone g r with
      | some (.row true e' xs) => k (.row key e' xs) []
      | _ => .fail
    else atPV e x fun p us => k (.pv p) us
  | _, _ => atPV e x fun p us => k (.pv p) us
def retAts {α : Type} (own : Option Nat) (key : Nat) : List Nat → List At → (List RA → List (Nat × Nat × Option AObj) → RM α) → RM α
  | _, [], k => k [] []
  | es, x :: l, k => retAt own key (es.headD 0) x fun p us => retAts own key es.tail l fun ps us' => k (p :: ps) (us ++ us')
def ret1 {α : Type} (own : Option Nat) (key : Nat) (es : List Nat) (y : V1) (k : R1 → List (Nat × Nat × Option AObj) → RM α) : RM α := match y with
  | .at x => retAt own key (es.headD 0) x fun p us => k (.at p) us
  | .agg l => retAts own key es l fun ps us => k (.agg ps) us
/-- What a cell of a result says: what it leads to; or the row that is handed on. -/
def MRA (σ : St) (own : Option Nat) (key : Nat) (c : Con) (p : RA) (v : Value) : Prop := match p with
  | .pv p => Rep c.G p v
  | .row k e xs => k = key ∧ ∃ q g, own = some q ∧ σ.ob q = (g, some (.row true e xs)) ∧ v = rowVal (c.ρ q) xs.length (c.cp q)
theorem MRA.mono {own : Option Nat} {key : Nat} {p : RA} {v : Value} (h : MRA σ own key c p v) (g : Gh.le c.G c'.G) (e1 : c'.ρ = c.ρ) (e2 : c'.cp = c.cp) : MRA σ own key c' p v := by
  cases p with
  | pv p => exact Rep.mono g h
  | row k e xs => obtain ⟨h1, q, g', h2, h3, h4⟩ := h; exact ⟨h1, q, g', h2, h3, by rw [e1, e2]; exact h4⟩
theorem val_retAt {α : Type} {own : Option Nat} {key e : Nat} {x : At} {k : RA → List (Nat × Nat × Option AObj) → RM α} {r : α} (h : (retAt own key e x k).val σ = some r) :
    ∃ p us, (k p us).val σ = some r ∧ ∀ σ1, Frz σ σ1 → Frz σ (σ1.lays us) ∧ ∀ w0 S0 G0 c a w, Rel w0 S0 G0 σ1 c a w → ∃ c', Rel w0 S0 G0 (σ1.lays us) c' a w ∧ Gh.le c.G c'.G ∧ c'.ρ = c.ρ ∧ c'.cp = c.cp ∧
      ∀ v, RepAt σ1.ob c x v → MRA σ own key c' p v := by
  have plain : (atPV e x fun p us => k (.pv p) us).val σ = some r → ∃ p us, (k p us).val σ = some r ∧ ∀ σ1, Frz σ σ1 → Frz σ (σ1.lays us) ∧ ∀ w0 S0 G0 c a w, Rel w0 S0 G0 σ1 c a w → ∃ c', Rel w0 S0 G0 (σ1.lays us) c' a w ∧ Gh.le c.G c'.G ∧ c'.ρ = c.ρ ∧ c'.cp = c.cp ∧
      ∀ v, RepAt σ1.ob c x v → MRA σ own key c' p v := fun h => by
    obtain ⟨p, us, h1, H⟩ := val_atPV h
    exact ⟨.pv p, us, h1, H⟩
  unfold retAt at h
  split at h
  case h_2 => exact plain h
  case h_1 q0 q g =>
    split at h
    case isFalse => exact plain h
    case isTrue hq =>
      subst hq
      simp only [RM.val] at h
      split at h
      case h_2 => simp [RM.val] at h
      case h_1 e' xs hg =>
        have hob := gone_some hg
        refine ⟨.row key e' xs, [], h, fun σ1 hf => ⟨hf, fun w0 S0 G0 c a w hR => ⟨c, hR, Gh.le_refl _, rfl, rfl, fun v hv => ⟨rfl, q, g, rfl, hob, ?_⟩⟩⟩⟩
        refine hv.2 _ ?_
        rcases hf.look hob with h1 | ⟨e2, xs2, h1, h2⟩
        · rw [alive_of h1]; rfl
        · cases h1; rw [alive_of h2]; rfl
theorem val_retAts {α : Type} {own : Option Nat} {key : Nat} {r : α} : ∀ {l : List At} {es : List Nat} {k : List RA → List (Nat × Nat × Option AObj) → RM α}, (retAts own key es l k).val σ = some r →
    ∃ ps us, (k ps us).val σ = some r ∧ ps.length = l.length ∧ ∀ σ1, Frz σ σ1 → Frz σ (σ1.lays us) ∧ ∀ w0 S0 G0 c a w, Rel w0 S0 G0 σ1 c a w → ∃ c', Rel w0 S0 G0 (σ1.lays us) c' a w ∧ Gh.le c.G c'.G ∧ c'.ρ = c.ρ ∧ c'.cp = c.cp ∧
      ∀ (i : Nat) (x : At) (v : Value), l[i]? = some x → RepAt σ1.ob c x v → ∃ p : RA, ps[i]? = some p ∧ MRA σ own key c' p v
  | [], es, k, h => ⟨[], [], h, rfl, fun σ1 hf => ⟨hf, fun w0 S0 G0 c a w hR => ⟨c, hR, Gh.le_refl _, rfl, rfl, fun i x v hx => by simp at hx⟩⟩⟩
  | x :: l, es, k, h => by
    obtain ⟨p, us, h1, H1⟩ := val_retAt h
    obtain ⟨ps, us', h2, hl, H2⟩ := val_retAts h1
    refine ⟨p :: ps, us ++ us', h2, by simp [hl], fun σ1 hf => ?_⟩
    obtain ⟨f1, R1⟩ := H1 σ1 hf
    obtain ⟨f2, R2⟩ := H2 _ f1
    rw [lays_append]
    refine ⟨f2, fun w0 S0 G0 c a w hR => ?_⟩
    obtain ⟨c1, hR1, g1, e1, e2, v1⟩ := R1 w0 S0 G0 c a w hR
    obtain ⟨c2, hR2, g2, e3, e4, v2⟩ := R2 w0 S0 G0 c1 a w hR1
    refine ⟨c2, hR2, Gh.le_trans g1 g2, e3.trans e1, e4.trans e2, fun i y v hy hv => ?_⟩
    cases i with
    | zero => simp at hy; subst hy; exact ⟨p, rfl, (v1 v hv).mono g2 e3 e4⟩
    | succ i =>
      simp only [List.getElem?_cons_succ] at hy ⊢
      exact v2 i y v hy (RepAt.keep g1 (Frz.keeps hf f1 e1 e2) hv)
def MR1 (σ : St) (own : Option Nat) (key : Nat) (c : Con) (x : R1) (v : Value) : Prop := match x with
  | .at p => MRA σ own key c p v
  | .agg ps => ∃ cs : Array Value, v = .agg cs ∧ cs.size = ps.length ∧ ∀ i p, ps[i]? = some p → MRA σ own key c p (cs.getD i undef)
theorem MR1.mono {own : Option Nat} {key : Nat} {p : R1} {v : Value} (h : MR1 σ own key c p v) (g : Gh.le c.G c'.G) (e1 : c'.ρ = c.ρ) (e2 : c'.cp = c.cp) : MR1 σ own key c' p v := by
  cases p with
  | «at» p => exact MRA.mono h g e1 e2
  | agg ps => obtain ⟨cs, h1, h2, h3⟩ := h; exact ⟨cs, h1, h2, fun i p hp => (h3 i p hp).mono g e1 e2⟩
theorem val_ret1 {α : Type} {own : Option Nat} {key : Nat} {es : List Nat} {y : V1} {k : R1 → List (Nat × Nat × Option AObj) → RM α} {r : α} (h : (ret1 own key es y k).val σ = some r) :
    ∃ p us, (k p us).val σ = some r ∧ ∀ σ1, Frz σ σ1 → Frz σ (σ1.lays us) ∧ ∀ w0 S0 G0 c a w, Rel w0 S0 G0 σ1 c a w → ∃ c', Rel w0 S0 G0 (σ1.lays us) c' a w ∧ Gh.le c.G c'.G ∧ c'.ρ = c.ρ ∧ c'.cp = c.cp ∧ ∀ v, RepV1 σ1.ob c y v → MR1 σ own key c' p v := by
  cases y with
  | «at» x =>
    simp only [ret1] at h
    obtain ⟨p, us, h1, H⟩ := val_retAt h
    exact ⟨.at p, us, h1, H⟩
  | agg l =>
    simp only [ret1] at h
    obtain ⟨ps, us, h1, hl, H⟩ := val_retAts h
    refine ⟨.agg ps, us, h1, fun σ1 hf => ?_⟩
    obtain ⟨f1, R1⟩ := H σ1 hf
    refine ⟨f1, fun w0 S0 G0 c a w hR => ?_⟩
    obtain ⟨c1, hR1, g1, e1, e2, v1⟩ := R1 w0 S0 G0 c a w hR
    refine ⟨c1, hR1, g1, e1, e2, fun v hv => ?_⟩
    obtain ⟨cs, e, hs, hr⟩ := hv
    refine ⟨cs, e, by rw [hs, hl], fun i p hp => ?_⟩
    have hi := (List.getElem?_eq_some_iff.1 hp).1
    obtain ⟨x, hx⟩ : ∃ x, l[i]? = some x := ⟨l[i]'(by omega), List.getElem?_eq_getElem (by omega)⟩
    obtain ⟨p', hp', hrep⟩ := v1 i x _ hx (hr i x hx)
    rw [hp] at hp'
    cases hp'
    exact hrep
def resRun {α : Type} (E : Env) (own : Option Nat) (key : Nat) : List ResultVar → List (List Nat) → (List R1 → List (Nat × Nat × Option AObj) → RM α) → RM α
  | [], _, k => k [] []
  | r :: l, ess, k => (resVal E r).bind fun y => ret1 own key (ess.headD []) y fun p us => resRun E own key l ess.tail fun ps us' => k (p :: ps) (us ++ us')
theorem val_resRun {α : Type} {E : Env} (hE : EnvOk P E) {own : Option Nat} {key : Nat} {r : α} : ∀ {l : List ResultVar} {ess : List (List Nat)} {k : List R1 → List (Nat × Nat × Option AObj) → RM α}, (resRun E own key l ess k).val σ = some r →
    ∃ ps us, (k ps us).val σ = some r ∧ ps.length = l.length ∧ ∀ σ1, Frz σ σ1 → Frz σ (σ1.lays us) ∧ ∀ w0 S0 G0 c a w c0, Rel w0 S0 G0 σ c0 a w → Rel w0 S0 G0 σ1 c a w → Gh.le c0.G c.G → c.ρ = c0.ρ → c.cp = c0.cp → ∃ c', Rel w0 S0 G0 (σ1.lays us) c' a w ∧ Gh.le c.G c'.G ∧ c'.ρ = c.ρ ∧ c'.cp = c.cp ∧
      ∀ (i : Nat) (x : ResultVar), l[i]? = some x → ∃ (p : R1) (v : Value), ps[i]? = some p ∧ (readRes a.tmps x).run P w = .ok v w ∧ MR1 σ own key c' p v
  | [], es, k, h => ⟨[], [], h, rfl, fun σ1 hf => ⟨hf, fun w0 S0 G0 c a w c0 _ hR _ _ _ => ⟨c, hR, Gh.le_refl _, rfl, rfl, fun i x hx => by simp at hx⟩⟩⟩
  | x :: l, es, k, h => by
    simp only [resRun] at h
    rw [RM.val_bind] at h
    obtain ⟨y, hy, h⟩ := Option.bind_eq_some_iff.1 h
    obtain ⟨p, us, h1, H1⟩ := val_ret1 h
    obtain ⟨ps, us', h2, hl, H2⟩ := val_resRun hE h1
    refine ⟨p :: ps, us ++ us', h2, by simp [hl], fun σ1 hf => ?_⟩
    obtain ⟨f1, R1⟩ := H1 σ1 hf
    obtain ⟨f2, R2⟩ := H2 _ f1
    rw [lays_append]
    refine ⟨f2, fun w0 S0 G0 c a w c0 hR0 hR g0 d1 d2 => ?_⟩
    obtain ⟨v, hv1, hv2⟩ := res_val hE hy hR0
    obtain ⟨c1, hR1, g1, e1, e2, v1⟩ := R1 w0 S0 G0 c a w hR
    obtain ⟨c2, hR2, g2, e3, e4, v2⟩ := R2 w0 S0 G0 c1 a w c0 hR0 hR1 (Gh.le_trans g0 g1) (e1.trans d1) (e2.trans d2)
    refine ⟨c2, hR2, Gh.le_trans g1 g2, e3.trans e1, e4.trans e2, fun i z hz => ?_⟩
    cases i with
    | zero =>
      simp at hz
      subst hz
      exact ⟨p, v, rfl, hv1, (v1 v (RepV1.keep g0 (Frz.keeps (Frz.refl σ) hf d1 d2) hv2)).mono g2 e3 e4⟩
    | succ i =>
      simp only [List.getElem?_cons_succ] at hz ⊢
      exact v2 i z hz
def resRT : List R1 → RT
  | [p] => .one p
  | ps => .tup ps
def resFin (E : Env) (own : Option Nat) (key : Nat) (rs : List ResultVar) (ess : List (List Nat)) : RM (RT × List (Nat × Nat × Option AObj)) :=
  resRun E own key rs ess fun ps us => if us.all (fun u => some u.1 != own) = true then .ret (resRT ps, us) else .fail
theorem run_results {fn : Func} {rs : List ResultVar} (hrs : fn.results = rs.toArray) (hl : rs.length ≤ 4) (tmps : Array Value) (f : Nat → Value) (h : ∀ i r, rs[i]? = some r → (readRes tmps r).run P w = .ok (f i) w) :
    (results fn tmps).run P w = .ok (if rs.length = 1 then f 0 else .tuple ((List.range rs.length).map f).toArray) w := by
  have e : results fn tmps = (do
      let vs ← fn.results.mapM (readRes tmps)
      pure (if h : vs.size = 1 then vs[0] else .tuple vs)) := by
    unfold results
    congr 1
  rw [e, hrs]
  rcases rs with _ | ⟨r1, _ | ⟨r2, _ | ⟨r3, _ | ⟨r4, _ | ⟨r5, rs⟩⟩⟩⟩⟩
  · simp
  · simp [h 0 r1 rfl]
  · simp [h 0 r1 rfl, h 1 r2 rfl, List.range_succ]
  · simp [h 0 r1 rfl, h 1 r2 rfl, h 2 r3 rfl, List.range_succ]
  · simp [h 0 r1 rfl, h 1 r2 rfl, h 2 r3 rfl, h 3 r4 rfl, List.range_succ]
  · simp at hl
theorem entry_rel {w : World} {G : Gh} {vs : Array Value} {args : List PA} {n : Nat} (himm : ∀ b o v, G b o = some v → w.cell? ⟨b, o, none⟩ = some v) (hsz : vs.size = args.length) (hargs : ∀ i x, args[i]? = some x → RepPA G x (vs.getD i undef)) :
    Rel w (fun _ => False) G (entry args n) ⟨fun _ => none, fun _ => 0, G⟩ { tmps := vs ++ Array.replicate (n - vs.size) undef, defers := [] } w where
  le := Gh.le_refl _
  imm := himm
  sz := by simp [entry, hsz]
  slots t := by
    by_cases ht : t < args.length
    · have h1 : (entry args n).slot t = paAV args[t] := by
        unfold entry St.slot
        rw [List.getD_eq_getElem?_getD, List.getElem?_append_left (by simpa using ht), List.getElem?_map, List.getElem?_eq_getElem ht]
        rfl
      rw [h1]
      have h2 := hargs t _ (List.getElem?_eq_getElem ht)
      have h3 : (vs ++ Array.replicate (n - vs.size) undef).getD t undef = vs.getD t undef := by
        rw [Array.getD_eq_getD_getElem?, Array.getD_eq_getD_getElem?, Array.getElem?_append_left (by omega)]
      show RepAV _ _ _ ((vs ++ Array.replicate (n - vs.size) undef).getD t undef)
      rw [h3]
      cases hp : args[t] with
      | «at» p => rw [hp] at h2; exact h2
      | agg ps =>
        rw [hp] at h2
        obtain ⟨cs, e, hl, hr⟩ := h2
        refine ⟨cs, e, by simp [hl], fun i x hx => ?_⟩
        obtain ⟨y, hy, rfl⟩ := map_get hx
        exact hr i y hy
    · have h1 : (entry args n).slot t = .any := by
        unfold entry St.slot
        rw [List.getD_eq_getElem?_getD, List.getElem?_append_right (by simp; omega), List.getElem?_replicate]
        split <;> rfl
      rw [h1]
      trivial
  df := rfl
  obs k g o h := by simp [entry, St.ob, look] at h
  sep k k' g g' o o' b h := by simp [entry, St.ob, look] at h
  new k g o b h := by simp [entry, St.ob, look] at h
  fr := Fr.refl _ _
  fresh b o h := absurd rfl h
/-- A function's contract, out of a run of its code. -/
theorem spec_of {E : Env} (hE : EnvOk P E) {f : FuncId} {fn : Func} {code : Code} (hf : P.funcs[f]? = some fn) (hb : fn.body = some code) {rs : List ResultVar} (hrs : fn.results = rs.toArray) (hl : rs.length ≤ 4)
    {args : List PA} {e : Exit} (hrun : ARun P E code (entry args fn.ntmps) e σ') (he : e = .normal ∨ e = .ret) (own : Option Nat) (key : Nat) (ess : List (List Nat)) {rt : RT} {us : List (Nat × Nat × Option AObj)}
    (hres : (resFin E own key rs ess).val σ' = some (rt, us)) : Spec P f args rt := by
  intro w G vs himm hsz hargs
  have hentry := entry_rel (n := fn.ntmps) himm hsz hargs
  refine calls_of_wp hf hb (Code.wp_mono ?_ ((hrun.snd hE).1 _ _ _ hentry))
  rintro e' a' w' ⟨rfl, c', hR⟩
  obtain ⟨ps, us1, h1, hlen, H⟩ := val_resRun hE hres
  split at h1
  case isFalse => simp [RM.val] at h1
  case isTrue hall =>
    simp only [RM.val, Option.some.injEq, Prod.mk.injEq] at h1
    obtain ⟨rfl, rfl⟩ := h1
    obtain ⟨hF, HR⟩ := H σ' (Frz.refl σ')
    obtain ⟨c2, hR2, g2, e1, e2, hv⟩ := HR w _ G c' a' w' c' hR hR (Gh.le_refl _) rfl rfl
    have dec : ∀ i : Nat, Decidable (∃ (v : Value) (p : R1) (r : ResultVar), rs[i]? = some r ∧ ps[i]? = some p ∧ (readRes a'.tmps r).run P w' = .ok v w' ∧ MR1 σ' own key c2 p v) := fun i => Classical.propDecidable _
    let val : Nat → Value := fun i => if h : ∃ (v : Value) (p : R1) (r : ResultVar), rs[i]? = some r ∧ ps[i]? = some p ∧ (readRes a'.tmps r).run P w' = .ok v w' ∧ MR1 σ' own key c2 p v then Classical.choose h else undef
    have hval : ∀ (i : Nat) (r : ResultVar), rs[i]? = some r → ∃ p, ps[i]? = some p ∧ (readRes a'.tmps r).run P w' = .ok (val i) w' ∧ MR1 σ' own key c2 p (val i) := fun i r hr => by
      obtain ⟨p, v, q1, q2, q3⟩ := hv i r hr
      have hex : ∃ (v : Value) (p : R1) (r : ResultVar), rs[i]? = some r ∧ ps[i]? = some p ∧ (readRes a'.tmps r).run P w' = .ok v w' ∧ MR1 σ' own key c2 p v := ⟨v, p, r, hr, q1, q2, q3⟩
      have : val i = Classical.choose hex := dif_pos hex
      obtain ⟨p', r', z1, z2, z3, z4⟩ := Classical.choose_spec hex
      rw [this]
      rw [hr] at z1
      cases z1
      exact ⟨p', z2, z3, z4⟩
    have hrr := run_results (P := P) hrs hl a'.tmps val fun i r hr => let ⟨_, _, q, _⟩ := hval i r hr; q
    let c3 : Con := ⟨fun _ => own.bind c2.ρ, fun _ => (own.map c2.cp).getD 0, c2.G⟩
    have hkeep : ∀ q g o, own = some q → σ'.ob q = (g, some o) → (σ'.lays us1).ob q = (g, some o) := fun q g o hq ho => by
      rcases ob_lays us1 σ' q with ⟨u, u1, u2, u3⟩ | ⟨_, h2⟩
      · have := List.all_eq_true.1 hall u u1
        rw [hq, u2] at this
        simp at this
      · rw [h2, ho]
    have rowOf : ∀ k e xs v, MRA σ' own key c2 (.row k e xs) v → k = key ∧ v = rowVal (c3.ρ k) xs.length (c3.cp k) ∧ ObOk obs0 c3 w' k (.row true e xs) ∧ (∀ b, c3.ρ k = some b → w.heap.size ≤ b) ∧ ∃ q g, own = some q ∧ σ'.ob q = (g, some (.row true e xs)) := by
      rintro k e xs v ⟨q1, q, g, q2, q3, q4⟩
      have h3 := hkeep q g _ q2 q3
      have hρ : c3.ρ k = c2.ρ q := by simp [c3, q2]
      have hcp : c3.cp k = c2.cp q := by simp [c3, q2]
      refine ⟨q1, by rw [hρ, hcp]; exact q4, ?_, fun b hb => ?_, q, g, q2, q3⟩
      · rcases hR2.obs q g _ h3 with ⟨r1, r2, r3⟩ | ⟨b, cs, ty, r1, r2, r3, r4, r5, r6, r7⟩
        · exact .inl ⟨by rw [hρ, r1], r2, by rw [hcp, r3]⟩
        · exact .inr ⟨b, cs, ty, by rw [hρ, r1], r2, by rw [hcp]; exact r3, by rw [hcp]; exact r4, r5, r6, r7⟩
      · rw [hρ] at hb
        rcases hR2.new q g _ b h3 rfl hb with h | h
        · exact h
        · exact h.elim
    have repA : ∀ p v, MRA σ' own key c2 p v → RepRA c3 p v := fun p v h => by
      cases p with
      | pv p => exact h
      | row k e xs => exact (rowOf k e xs v h).2.1
    have rep1 : ∀ p v, MR1 σ' own key c2 p v → RepR1 c3 p v := fun p v h => by
      cases p with
      | «at» p => exact repA p v h
      | agg l => obtain ⟨cs, q1, q2, q3⟩ := h; exact ⟨cs, q1, q2, fun i x hx => repA x _ (q3 i x hx)⟩
    have atom : ∀ x ∈ (resRT ps).atoms, ∃ v, MRA σ' own key c2 x v := by
      have one : ∀ p ∈ ps, ∀ x ∈ p.atoms, ∃ v, MRA σ' own key c2 x v := fun p hp x hx => by
        obtain ⟨i, hi, hpi⟩ := List.getElem_of_mem hp
        have hr : rs[i]? = some (rs[i]'(by omega)) := List.getElem?_eq_getElem (by omega)
        obtain ⟨p', q1, _, q3⟩ := hval i _ hr
        rw [List.getElem?_eq_getElem hi, hpi] at q1
        cases q1
        cases p with
        | «at» y => simp [R1.atoms] at hx; subst hx; exact ⟨_, q3⟩
        | agg l =>
          obtain ⟨cs, _, _, q4⟩ := q3
          obtain ⟨j, hj, rfl⟩ := List.getElem_of_mem (show x ∈ l from hx)
          exact ⟨_, q4 j _ (List.getElem?_eq_getElem hj)⟩
      have split1 : ∀ x ∈ (resRT ps).atoms, ∃ p ∈ ps, x ∈ p.atoms := by
        unfold resRT
        split
        · intro x hx; exact ⟨_, .head _, hx⟩
        · intro x hx; exact List.mem_flatMap.1 hx
      intro x hx
      obtain ⟨p, hp, hxp⟩ := split1 x hx
      exact one p hp x hxp
    have ends : Ends w G (resRT ps) (if rs.length = 1 then val 0 else .tuple ((List.range rs.length).map val).toArray) c3 w' := by
      refine ⟨hR2.le, hR2.imm, fun b o h => ?_, hR2.fr.below, ?_, fun k e xs hm => ?_, fun k e xs e' xs' h1 h2 => ?_, fun k e xs k' e' xs' b h1 h2 _ _ => ?_⟩
      · rcases hR2.fresh b o h with h | h
        · exact h
        · exact h.elim
      · have tupc : rs.length ≠ 1 → RepRT c3 (.tup ps) (.tuple ((List.range rs.length).map val).toArray) := fun hne => by
          refine ⟨_, rfl, by simp [hlen], fun i p hp => ?_⟩
          have hi := (List.getElem?_eq_some_iff.1 hp).1
          have hr : rs[i]? = some (rs[i]'(by omega)) := List.getElem?_eq_getElem (by omega)
          obtain ⟨p', q1, _, q3⟩ := hval i _ hr
          rw [hp] at q1
          cases q1
          have : (((List.range rs.length).map val).toArray).getD i undef = val i := by
            rw [Array.getD_eq_getD_getElem?]
            simp [show i < rs.length by omega]
          rw [this]
          exact rep1 p _ q3
        unfold resRT
        split
        · rename_i p
          have h1 : rs.length = 1 := by rw [← hlen]; rfl
          rw [if_pos h1]
          have hr : rs[0]? = some (rs[0]'(by omega)) := List.getElem?_eq_getElem (by omega)
          obtain ⟨p', q1, _, q3⟩ := hval 0 _ hr
          cases q1
          exact rep1 p _ q3
        · rename_i hne
          have h1 : rs.length ≠ 1 := fun h => by
            rw [← hlen] at h
            match ps, h with
            | [p], _ => exact hne p rfl
          rw [if_neg h1]
          exact tupc h1
      · obtain ⟨v, hv⟩ := atom _ hm
        obtain ⟨_, _, q3, q4, _⟩ := rowOf k e xs v hv
        exact ⟨q3, q4⟩
      · obtain ⟨v, hv⟩ := atom _ h1
        obtain ⟨v', hv'⟩ := atom _ h2
        obtain ⟨_, _, _, _, q, g, z1, z2⟩ := rowOf k e xs v hv
        obtain ⟨_, _, _, _, q', g', z1', z2'⟩ := rowOf k e' xs' v' hv'
        rw [z1] at z1'
        cases z1'
        rw [z2] at z2'
        cases z2'
        exact ⟨rfl, rfl⟩
      · obtain ⟨v, hv⟩ := atom _ h1
        obtain ⟨v', hv'⟩ := atom _ h2
        rw [(rowOf k e xs v hv).1, (rowOf k' e' xs' v' hv').1]
    have fin : a'.defers = [] ∧ ∃ v, (results fn a'.tmps).run P w' = .ok v w' ∧ ∃ v' c, Ending.returned v = .returned v' ∧ Ends w G (resRT ps) v' c w' := ⟨hR.df, _, hrr, _, c3, rfl, ends⟩
    rcases he with rfl | rfl
    · exact fin
    · exact fin
end Go.Eng
