/- The engine, part 8: VRun, VEnv. -/
import Derived.Test.YtiliffhopdiepaaGreatE6
import Derived.Test.YtiliffhopdiepaaGreatE7
namespace Go.E2
open Go.RowKit
set_option linter.unusedVariables false
set_option linter.unusedSimpArgs false
variable {w w' w0 : World} {S0 : Own} {G0 G : Gh} {σ σ' σ1 : St} {P : Program}
def feetOps (E : Env) (H : Hand) (ops : Array Oper) : List Oper → St → Option (St × List Foot)
  | [], s => some (s, [])
  | o :: l, s => match (absG E H ops o).val s with
    | some e => match feetOps E H ops l (s.app o.dst e) with
      | some (s', fs) => some (s', ⟨((absG E H ops o).sees s).1, ((absG E H ops o).sees s).2, e.upd.map (·.1)⟩ :: fs)
      | none => none
    | none => none
theorem feet_RD {E : Env} {H : Hand} {ops : Array Oper} : ∀ {l : List Oper} {s s' : St} {fs : List Foot}, feetOps E H ops l s = some (s', fs) → RD E H ops l s s' fs
  | [], s, s', fs, h => by cases h; exact .nil
  | o :: l, s, s', fs, h => by
    simp only [feetOps] at h
    split at h
    case h_2 => cases h
    case h_1 e he =>
      split at h
      case h_2 => cases h
      case h_1 s1 fs1 h1 =>
        cases h
        exact .cons he rfl rfl rfl (feet_RD h1)
theorem RD_feet {E : Env} {H : Hand} {ops : Array Oper} {l : List Oper} {s s' : St} {fs : List Foot} (h : RD E H ops l s s' fs) : feetOps E H ops l s = some (s', fs) := by
  induction h with
  | nil => rfl
  | @cons o l s s1 s' e fs ts qs ls h1 h2 h3 h4 h5 ih =>
    subst h2
    simp only [feetOps, h1]
    rw [ih]
    simp only [h3, h4]
def normO (h : Option (List (Nat × List CM))) (s : St) : Option St := match h with
  | some hs => normSt hs s
  | none => some s
theorem weak_normO {h : Option (List (Nat × List CM))} (hn : normO h σ = some σ') : Weak σ σ' := by
  cases h with
  | none => cases hn; exact fun w0 S0 G0 c a w hR => ⟨c, hR⟩
  | some hs => exact weak_norm hn
def exec (E : Env) (A : Ora) (f : FuncId) : Nat → Code → St → Option (Exit × St)
  | _, .skip, s => some (.normal, s)
  | _, .region _ ops false, s => (runOps E A.fn ops ops.toList s).bind fun s' => some (.normal, s')
  | _, .region id ops true, s => (if E.plain f id = true then runPure E A.fn ops ops.toList s else exUp E A.fn ops s).bind fun s' => some (.normal, s')
  | cur, .seq x y, s => (exec E A f cur x s).bind fun r => match r.1 with
    | .normal => exec E A f cur y r.2
    | e => some (e, r.2)
  | cur, .cond q x y, s => match absO s q with
    | .one (.at (.pv (.bool b))) => if b = true then exec E A f cur x s else exec E A f cur y s
    | _ => none
  | _, .block id x, s => (exec E A f id x s).bind fun r => some (outOf id r.1, r.2)
  | cur, .loop x, s => (normO ((E.hint f cur).map (·.head)) s).bind fun s1 => A.lp f cur s1
  | _, .exit id, s => some (.exit id, s)
  | _, .ret, s => some (.ret, s)
  | _, _, _ => none
def loops : Nat → Code → List (Nat × Code)
  | cur, .loop x => (cur, x) :: loops cur x
  | _, .block id x => loops id x
  | cur, .seq x y => loops cur x ++ loops cur y
  | cur, .cond _ x y => loops cur x ++ loops cur y
  | _, _ => []
def lookC (id : Nat) : List (Nat × Code) → Option Code
  | [] => none
  | u :: l => if u.1 = id then some u.2 else lookC id l
theorem lookC_of {L : List (Nat × Code)} : ∀ {e : Nat × Code}, distinct (L.map (·.1)) = true → e ∈ L → lookC e.1 L = some e.2 := by
  induction L with
  | nil => intro e _ h; cases h
  | cons u l ih =>
    intro e hd h
    rw [List.map_cons, distinct, Bool.and_eq_true] at hd
    unfold lookC
    rcases List.mem_cons.1 h with rfl | h
    · rw [if_pos rfl]
    · rw [if_neg (fun e1 => ?_)]
      · exact ih hd.2 h
      · have : u.1 ∈ l.map (·.1) := by rw [e1]; exact List.mem_map.2 ⟨e, h, rfl⟩
        have h1 := hd.1
        simp at h1
        exact absurd this (by simpa using h1)
theorem lookC_mem {id : Nat} {x : Code} : ∀ {L : List (Nat × Code)}, lookC id L = some x → (id, x) ∈ L
  | [], h => by cases h
  | u :: l, h => by
    unfold lookC at h
    split at h
    · rename_i e
      cases h
      rw [← e]
      exact .head _
    · exact .tail _ (lookC_mem h)
theorem loops_in : ∀ (y : Code) (cur : Nat) {e : Nat × Code}, e ∈ loops cur y → ∀ e' ∈ loops e.1 e.2, e' ∈ loops cur y := by
  intro y
  induction y with
  | loop x ih =>
    intro cur e he e' he'
    rcases List.mem_cons.1 he with rfl | he
    · exact .tail _ he'
    · exact .tail _ (ih cur he e' he')
  | block id x ih => exact fun cur e he e' he' => ih id he e' he'
  | seq x y ihx ihy =>
    intro cur e he e' he'
    rcases List.mem_append.1 he with he | he
    · exact List.mem_append_left _ (ihx cur he e' he')
    · exact List.mem_append_right _ (ihy cur he e' he')
  | cond q x y ihx ihy =>
    intro cur e he e' he'
    rcases List.mem_append.1 he with he | he
    · exact List.mem_append_left _ (ihx cur he e' he')
    · exact List.mem_append_right _ (ihy cur he e' he')
  | _ => intro cur e he; cases he
def loopsOf (P : Program) (f : FuncId) : List (Nat × Code) := match P.funcs[f]? with
  | some fn => match fn.body with
    | some code => if distinct ((loops 0 code).map (·.1)) = true then loops 0 code else []
    | none => []
  | none => []
theorem loopsOf_at {f : FuncId} : distinct ((loopsOf P f).map (·.1)) = true := by
  unfold loopsOf
  split
  · split
    · split
      · assumption
      · rfl
    · rfl
  · rfl
theorem loopsOf_in {f : FuncId} {e : Nat × Code} (he : e ∈ loopsOf P f) : ∀ e' ∈ loops e.1 e.2, e' ∈ loopsOf P f := by
  unfold loopsOf at he ⊢
  cases hf : P.funcs[f]? with
  | none => rw [hf] at he; cases he
  | some fn =>
    rw [hf] at he
    dsimp only at he ⊢
    cases hb : fn.body with
    | none => rw [hb] at he; cases he
    | some code =>
      rw [hb] at he
      dsimp only at he ⊢
      by_cases hd : distinct ((loops 0 code).map (·.1)) = true
      · rw [if_pos hd] at he ⊢
        exact loops_in code 0 he
      · rw [if_neg hd] at he; cases he
def regs : Code → List (Nat × Array Oper)
  | .region id ops true => [(id, ops)]
  | .loop x => regs x
  | .block _ x => regs x
  | .seq x y => regs x ++ regs y
  | .cond _ x y => regs x ++ regs y
  | _ => []
def lookR (id : Nat) : List (Nat × Array Oper) → Option (Array Oper)
  | [] => none
  | u :: l => if u.1 = id then some u.2 else lookR id l
def uniqR : List (Nat × Array Oper) → Bool
  | [] => true
  | u :: l => !((l.map (·.1)).contains u.1) && uniqR l
theorem lookR_of {L : List (Nat × Array Oper)} : ∀ {e : Nat × Array Oper}, uniqR L = true → e ∈ L → lookR e.1 L = some e.2 := by
  induction L with
  | nil => intro e _ h; cases h
  | cons u l ih =>
    intro e hd h
    rw [uniqR, Bool.and_eq_true] at hd
    unfold lookR
    rcases List.mem_cons.1 h with rfl | h
    · rw [if_pos rfl]
    · rw [if_neg (fun e1 => ?_)]
      · exact ih hd.2 h
      · have : u.1 ∈ l.map (·.1) := by rw [e1]; exact List.mem_map.2 ⟨e, h, rfl⟩
        have h1 := hd.1
        simp at h1
        exact absurd this (by simpa using h1)
def plainOf (P : Program) (f : FuncId) (id : Nat) : Bool := match P.funcs[f]? with
  | some fn => match fn.body with
    | some code => uniqR (regs code) && match lookR id (regs code) with
      | some ops => okText ops
      | none => false
    | none => false
  | none => false
def InF (P : Program) (f : FuncId) (x : Code) : Prop := ∃ fn code, P.funcs[f]? = some fn ∧ fn.body = some code ∧ ∀ u ∈ regs x, u ∈ regs code
theorem plain_ok {f : FuncId} {x : Code} (h : InF P f x) {id : Nat} {ops : Array Oper} (hm : (id, ops) ∈ regs x) (hp : plainOf P f id = true) : okText ops = true := by
  obtain ⟨fn, code, hf, hb, hx⟩ := h
  unfold plainOf at hp
  rw [hf] at hp
  dsimp only at hp
  rw [hb] at hp
  dsimp only at hp
  rw [Bool.and_eq_true] at hp
  obtain ⟨h1, h2⟩ := hp
  rw [lookR_of h1 (hx _ hm)] at h2
  exact h2
structure OraOk (P : Program) (A : Ora) : Prop where
  fn : HandOk P A.fn
  lp : ∀ f id s e s', A.lp f id s = some (e, s') → ∃ x, (id, x) ∈ loopsOf P f ∧ ∀ w0 S0 G0, ∃ n, LChain P w0 S0 G0 x e s' n s
theorem regs_loops : ∀ (y : Code) (cur : Nat) {e : Nat × Code}, e ∈ loops cur y → ∀ u ∈ regs e.2, u ∈ regs y := by
  intro y
  induction y with
  | loop x ih =>
    intro cur e he u hu
    rcases List.mem_cons.1 he with rfl | he
    · exact hu
    · exact ih cur he u hu
  | block id x ih => exact fun cur e he u hu => ih id he u hu
  | seq x y ihx ihy =>
    intro cur e he u hu
    rcases List.mem_append.1 he with he | he
    · exact List.mem_append_left _ (ihx cur he u hu)
    · exact List.mem_append_right _ (ihy cur he u hu)
  | cond q x y ihx ihy =>
    intro cur e he u hu
    rcases List.mem_append.1 he with he | he
    · exact List.mem_append_left _ (ihx cur he u hu)
    · exact List.mem_append_right _ (ihy cur he u hu)
  | _ => intro cur e he; cases he
theorem inF_loop {f : FuncId} {e : Nat × Code} (he : e ∈ loopsOf P f) : InF P f e.2 := by
  unfold loopsOf at he
  cases hf : P.funcs[f]? with
  | none => rw [hf] at he; cases he
  | some fn =>
    rw [hf] at he
    dsimp only at he
    cases hb : fn.body with
    | none => rw [hb] at he; cases he
    | some code =>
      rw [hb] at he
      dsimp only at he
      by_cases hd : distinct ((loops 0 code).map (·.1)) = true
      · rw [if_pos hd] at he
        exact ⟨fn, code, hf, hb, regs_loops code 0 he⟩
      · rw [if_neg hd] at he; cases he
def PlainOk (P : Program) (E : Env) : Prop := ∀ f id, E.plain f id = true → plainOf P f id = true
theorem exec_snd {E : Env} (hE : EnvOk P E) (hP : PlainOk P E) {A : Ora} (hA : OraOk P A) (f : FuncId) : ∀ (x : Code) (cur : Nat) (s : St) (e : Exit) (s' : St), (∀ u ∈ loops cur x, u ∈ loopsOf P f) → InF P f x → exec E A f cur x s = some (e, s') → ∀ w0 S0 G0, Snd P w0 S0 G0 x s e s' := by
  intro x
  induction x with
  | skip => intro cur s e s' hc hi h w0 S0 G0; cases h; exact fun c a w hR => wp_skip ⟨rfl, c, hR⟩
  | region id ops draw =>
    intro cur s e s' hc hi h w0 S0 G0
    cases draw with
    | false =>
      obtain ⟨s1, h1, h2⟩ := Option.bind_eq_some_iff.1 h
      cases h2
      exact fun c a w hR => wp_region_list (runOps_wp hE hA.fn h1 hR rfl fun c' a' w' hR' _ => ⟨rfl, c', hR'⟩)
    | true =>
      obtain ⟨s1, h1, h2⟩ := Option.bind_eq_some_iff.1 h
      cases h2
      split at h1
      case isTrue hp => exact pure_snd hE hA.fn (plain_ok hi (.head _) (hP f id hp)) h1
      case isFalse =>
        obtain ⟨fs, hf, hok⟩ := exUp_RD h1
        exact RD.snd hE hA.fn hf hok
  | seq x y ihx ihy =>
    intro cur s e s' hc hi h w0 S0 G0
    obtain ⟨⟨e1, s1⟩, h1, h2⟩ := Option.bind_eq_some_iff.1 h
    have hx := ihx cur s e1 s1 (fun u hu => hc u (List.mem_append_left _ hu)) (let ⟨fn, code, q1, q2, q3⟩ := hi; ⟨fn, code, q1, q2, fun u hu => q3 u (List.mem_append_left _ hu)⟩) h1 w0 S0 G0
    dsimp only at h2
    split at h2
    · intro c a w hR
      refine wp_seq (Code.wp_mono ?_ (hx c a w hR))
      rintro e' a' w' ⟨rfl, c', hR'⟩
      exact ihy cur s1 e s' (fun u hu => hc u (List.mem_append_right _ hu)) (let ⟨fn, code, q1, q2, q3⟩ := hi; ⟨fn, code, q1, q2, fun u hu => q3 u (List.mem_append_right _ hu)⟩) h2 w0 S0 G0 c' a' w' hR'
    · rename_i hne
      cases h2
      intro c a w hR
      refine wp_seq (Code.wp_mono ?_ (hx c a w hR))
      rintro e' a' w' ⟨rfl, hR'⟩
      cases e' <;> first | exact absurd rfl hne | exact ⟨rfl, hR'⟩
  | cond q x y ihx ihy =>
    intro cur s e s' hc hi h w0 S0 G0
    simp only [exec] at h
    split at h
    case h_2 => cases h
    case h_1 b hb =>
      intro c a w hR
      have hx := hR.opnd q
      rw [hb] at hx
      refine wp_cond (rep_bool hx) ?_
      cases b with
      | true => exact ihx cur s e s' (fun u hu => hc u (List.mem_append_left _ hu)) (let ⟨fn, code, q1, q2, q3⟩ := hi; ⟨fn, code, q1, q2, fun u hu => q3 u (List.mem_append_left _ hu)⟩) (by simpa using h) w0 S0 G0 c a w hR
      | false => exact ihy cur s e s' (fun u hu => hc u (List.mem_append_right _ hu)) (let ⟨fn, code, q1, q2, q3⟩ := hi; ⟨fn, code, q1, q2, fun u hu => q3 u (List.mem_append_right _ hu)⟩) (by simpa using h) w0 S0 G0 c a w hR
  | block id x ih =>
    intro cur s e s' hc hi h w0 S0 G0
    obtain ⟨⟨e1, s1⟩, h1, h2⟩ := Option.bind_eq_some_iff.1 h
    cases h2
    intro c a w hR
    refine wp_block (Code.wp_mono ?_ (ih id s e1 s1 hc hi h1 w0 S0 G0 c a w hR))
    rintro e' a' w' ⟨rfl, hR'⟩
    cases e' <;> first | exact ⟨rfl, hR'⟩ | skip
    rename_i id'
    show if id' = _ then _ else _
    split
    · rename_i q; subst q; exact ⟨by simp [outOf], hR'⟩
    · rename_i q; exact ⟨by simp [outOf, q], hR'⟩
  | loop x ih =>
    intro cur s e s' hc hi h w0 S0 G0
    obtain ⟨s1, h1, h2⟩ := Option.bind_eq_some_iff.1 h
    obtain ⟨x', hx', hl⟩ := hA.lp _ _ _ _ _ h2
    have hx := hc _ (.head _)
    have e1 := lookC_of loopsOf_at hx
    rw [lookC_of loopsOf_at hx'] at e1
    cases e1
    obtain ⟨n, hl⟩ := hl w0 S0 G0
    intro c a w hR
    obtain ⟨c', hR'⟩ := weak_normO h1 _ _ _ _ _ _ hR
    exact hl.snd c' a w hR'
  | exit id => intro cur s e s' hc hi h w0 S0 G0; cases h; exact fun c a w hR => wp_exit ⟨rfl, c, hR⟩
  | ret => intro cur s e s' hc hi h w0 S0 G0; cases h; exact fun c a w hR => wp_ret ⟨rfl, c, hR⟩
  | rangeFunc q ps x y _ _ => intro cur s e s' hc hi h; cases h
  | scope x _ => intro cur s e s' hc hi h; cases h
  | label l => intro cur s e s' hc hi h; cases h
  | goto l => intro cur s e s' hc hi h; cases h
  | refuse y => intro cur s e s' hc hi h; cases h
theorem fs_up (E : Env) (ops : Array Oper) : ∀ (l : List Oper) (s : St) (acc : List UFoot), FS fun A => runUp E A.fn ops l s acc
  | [], s, acc => FS.const _
  | o :: l, s, acc => by
    refine FS.congr (G := fun A => ((absG E A.fn ops o).val s).bind fun e => (footU ops o s (e.upd.map (·.1))).bind fun f => runUp E A.fn ops l (s.app o.dst e) (acc ++ [f])) (fun A => ?_) (FS.bind (fs_gval E ops o) fun e => ?_)
    · simp only [runUp]
      cases (absG E A.fn ops o).val s with
      | none => rfl
      | some e =>
        simp only [Option.bind_some]
        cases footU ops o s (e.upd.map (·.1)) <;> rfl
    · cases footU ops o s (e.upd.map (·.1)) with
      | none => exact FS.const _
      | some f => exact fs_up E ops l _ _
theorem fs_drawn (E : Env) (ops : Array Oper) (s : St) : FS fun A => exUp E A.fn ops s := FS.congr (G := fun A => (runUp E A.fn ops ops.toList s []).bind fun r => if okUp ops r.2 (ancs ops) = true then some r.1 else none) (fun A => by
    unfold exUp
    cases runUp E A.fn ops ops.toList s [] <;> rfl) (FS.bind (fs_up E ops _ s []) fun r => FS.const _)
theorem fs_pure (E : Env) (ops : Array Oper) : ∀ (l : List Oper) (s : St), FS fun A => runPure E A.fn ops l s
  | [], s => FS.const _
  | o :: l, s => by
    refine FS.congr (G := fun A => ((absG E A.fn ops o).val s).bind fun e => match e with
      | ⟨v, []⟩ => runPure E A.fn ops l (s.app o.dst ⟨v, []⟩)
      | _ => none) (fun A => ?_) (FS.bind (fs_gval E ops o) fun e => ?_)
    · simp only [runPure]
      rcases (absG E A.fn ops o).val s with _ | ⟨v, us⟩
      · rfl
      · cases us <;> rfl
    · obtain ⟨v, us⟩ := e
      cases us with
      | nil => exact fs_pure E ops l _
      | cons u us => exact FS.const none
theorem fs_exec (E : Env) (f : FuncId) : ∀ (x : Code) (cur : Nat) (s : St), FS fun A => exec E A f cur x s := by
  intro x
  induction x with
  | skip => exact fun cur s => FS.const _
  | region id ops draw =>
    intro cur s
    cases draw with
    | false => exact FS.bind (fs_ops E ops _ s) fun _ => FS.const _
    | true =>
      refine FS.bind ?_ fun _ => FS.const _
      by_cases hp : E.plain f id = true
      · exact FS.congr (fun A => if_pos hp) (fs_pure E ops _ s)
      · exact FS.congr (fun A => if_neg hp) (fs_drawn E ops s)
  | seq x y ihx ihy =>
    intro cur s
    refine FS.bind (ihx cur s) fun r => ?_
    obtain ⟨e, s1⟩ := r
    cases e with
    | normal => exact ihy cur s1
    | _ => exact FS.const _
  | cond q x y ihx ihy =>
    intro cur s
    have key : FS fun A => (match absO s q with
      | .one (.at (.pv (.bool b))) => if b = true then exec E A f cur x s else exec E A f cur y s
      | _ => none) := by
      split
      · split
        · exact ihx cur s
        · exact ihy cur s
      · exact FS.const _
    exact key
  | block id x ih => exact fun cur s => FS.bind (ih id s) fun _ => FS.const _
  | loop x _ => exact fun cur s => FS.bind (FS.const _) fun s1 => FS.lp f cur s1
  | exit id => exact fun cur s => FS.const _
  | ret => exact fun cur s => FS.const _
  | rangeFunc q ps x y _ _ => exact fun cur s => FS.const _
  | scope x _ => exact fun cur s => FS.const _
  | label l => exact fun cur s => FS.const _
  | goto l => exact fun cur s => FS.const _
  | refuse y => exact fun cur s => FS.const _
def finish (E : Env) (f : FuncId) (m : Nat) (rs : List ResultVar) (ts : List Nat) (r : Exit × St) : Option Res := match r.1 with
  | .normal => (finRM E f m rs ts).val r.2
  | .ret => (finRM E f m rs ts).val r.2
  | _ => none
def execFn (P : Program) (E : Env) (A : Ora) (f : FuncId) (args : List V1) (ins : List AObj) : Option Res := match P.funcs[f]? with
  | some fn => match fn.body with
    | some code => if fn.results.size ≤ 4 ∧ distinct ((loops 0 code).map (·.1)) = true then (exec E A f 0 code (entryN args ins fn.ntmps)).bind (finish E f ins.length fn.results.toList fn.resultTypes.toList) else none
    | none => none
  | none => none
def turn (E : Env) (A : Ora) (f : FuncId) (id : Nat) (r : Exit × St) : Option (Exit × St) := match r.1 with
  | .normal => (normO ((E.hint f id).map (·.head)) r.2).bind fun s2 => A.lp f id s2
  | e => (normO ((E.hint f id).map (·.exit)) r.2).bind fun s2 => some (e, s2)
def stepO (P : Program) (E : Env) (A : Ora) : Ora where
  fn f args ins := match E.lib f with
    | some h => h A.fn args ins
    | none => execFn P E A f args ins
  lp f id s := match lookC id (loopsOf P f) with
    | some x => (exec E A f id x s).bind (turn E A f id)
    | none => none
structure LibOk (P : Program) (E : Env) : Prop where
  plain : PlainOk P E
  fs : ∀ f h, E.lib f = some h → ∀ args ins, FS fun A => h A.fn args ins
  snd : ∀ f h, E.lib f = some h → ∀ H, HandOk P H → ∀ args ins res fin, h H args ins = some (res, fin) → Spec P f args ins res fin
theorem fs_stepFn {E : Env} (hL : LibOk P E) (f : FuncId) (args : List V1) (ins : List AObj) : FS fun A => (stepO P E A).fn f args ins := by
  cases hl : E.lib f with
  | some h => exact FS.congr (fun A => by simp only [stepO, hl]) (hL.fs f h hl args ins)
  | none =>
    refine FS.congr (G := fun A => execFn P E A f args ins) (fun A => by simp only [stepO, hl]) ?_
    unfold execFn
    split
    · split
      · split
        · exact FS.bind (fs_exec E f _ _ _) fun r => FS.const _
        · exact FS.const _
      · exact FS.const _
    · exact FS.const _
theorem fs_stepLp {E : Env} (f : FuncId) (id : Nat) (s : St) : FS fun A => (stepO P E A).lp f id s := by
  cases hx : lookC id (loopsOf P f) with
  | none => exact FS.congr (fun A => by simp only [stepO, hx]) (FS.const none)
  | some x =>
    refine FS.congr (G := fun A => (exec E A f id x s).bind (turn E A f id)) (fun A => by simp only [stepO, hx]) (FS.bind (fs_exec E f x id s) fun r => ?_)
    obtain ⟨e, s1⟩ := r
    cases e with
    | normal => exact FS.bind (FS.const _) fun s2 => FS.lp f id s2
    | _ => exact FS.bind (FS.const _) fun s2 => FS.const _
def iter (P : Program) (E : Env) : Nat → Ora
  | 0 => ⟨fun _ _ _ => none, fun _ _ _ => none⟩
  | n + 1 => stepO P E (iter P E n)
theorem iter_mono {E : Env} (hL : LibOk P E) : ∀ (n m : Nat), n ≤ m → (∀ f args ins r, (iter P E n).fn f args ins = some r → (iter P E m).fn f args ins = some r) ∧ ∀ f id s r, (iter P E n).lp f id s = some r → (iter P E m).lp f id s = some r
  | 0, m, _ => ⟨fun f args ins r h => (by cases h), fun f id s r h => (by cases h)⟩
  | n + 1, 0, h => by omega
  | n + 1, m + 1, h => by
    obtain ⟨h1, h2⟩ := iter_mono hL n m (by omega)
    have sub : ∀ q : Qry, q.sub (iter P E n) (iter P E m) := fun q => by
      cases q with
      | fn f args ins => exact h1 f args ins
      | lp f id s => exact h2 f id s
    refine ⟨fun f args ins r hr => ?_, fun f id s r hr => ?_⟩
    · obtain ⟨qs, hq⟩ := fs_stepFn hL f args ins _ r hr
      exact hq _ fun q _ => sub q
    · obtain ⟨qs, hq⟩ := fs_stepLp (P := P) f id s _ r hr
      exact hq _ fun q _ => sub q
open Classical in
noncomputable def ans (P : Program) (E : Env) : Ora where
  fn f args ins := if h : ∃ r n, (iter P E n).fn f args ins = some r then some h.choose else none
  lp f id s := if h : ∃ r n, (iter P E n).lp f id s = some r then some h.choose else none
theorem ans_fn_iff {E : Env} (hL : LibOk P E) {f : FuncId} {args : List V1} {ins : List AObj} {r : Res} : (ans P E).fn f args ins = some r ↔ ∃ n, (iter P E n).fn f args ins = some r := by
  constructor
  · intro h
    simp only [ans] at h
    split at h
    · rename_i hex
      cases h
      exact hex.choose_spec
    · cases h
  · rintro ⟨n, h⟩
    have hex : ∃ r n, (iter P E n).fn f args ins = some r := ⟨r, n, h⟩
    obtain ⟨m, hm⟩ := hex.choose_spec
    have e1 := (iter_mono hL n (n + m) (by omega)).1 _ _ _ _ h
    have e2 := (iter_mono hL m (n + m) (by omega)).1 _ _ _ _ hm
    rw [e1] at e2
    simp only [ans]
    rw [dif_pos hex]
    exact e2.symm
theorem ans_lp_iff {E : Env} (hL : LibOk P E) {f : FuncId} {id : Nat} {s : St} {r : Exit × St} : (ans P E).lp f id s = some r ↔ ∃ n, (iter P E n).lp f id s = some r := by
  constructor
  · intro h
    simp only [ans] at h
    split at h
    · rename_i hex
      cases h
      exact hex.choose_spec
    · cases h
  · rintro ⟨n, h⟩
    have hex : ∃ r n, (iter P E n).lp f id s = some r := ⟨r, n, h⟩
    obtain ⟨m, hm⟩ := hex.choose_spec
    have e1 := (iter_mono hL n (n + m) (by omega)).2 _ _ _ _ h
    have e2 := (iter_mono hL m (n + m) (by omega)).2 _ _ _ _ hm
    rw [e1] at e2
    simp only [ans]
    rw [dif_pos hex]
    exact e2.symm
theorem ans_fin {E : Env} (hL : LibOk P E) : ∀ qs : List Qry, ∃ n, ∀ q ∈ qs, q.sub (ans P E) (iter P E n)
  | [] => ⟨0, fun q h => by cases h⟩
  | q :: qs => by
    obtain ⟨n, hn⟩ := ans_fin hL qs
    have one : ∃ m, q.sub (ans P E) (iter P E m) := by
      cases q with
      | fn f args ins =>
        cases h : (ans P E).fn f args ins with
        | none => exact ⟨0, fun r hr => by rw [h] at hr; cases hr⟩
        | some r =>
          obtain ⟨m, hm⟩ := (ans_fn_iff hL).1 h
          exact ⟨m, fun r' hr => by rw [h] at hr; cases hr; exact hm⟩
      | lp f id s =>
        cases h : (ans P E).lp f id s with
        | none => exact ⟨0, fun r hr => by rw [h] at hr; cases hr⟩
        | some r =>
          obtain ⟨m, hm⟩ := (ans_lp_iff hL).1 h
          exact ⟨m, fun r' hr => by rw [h] at hr; cases hr; exact hm⟩
    obtain ⟨m, hm⟩ := one
    have up : ∀ (k : Nat) (q : Qry), k ≤ n + m → q.sub (ans P E) (iter P E k) → q.sub (ans P E) (iter P E (n + m)) := fun k q hk h => by
      cases q with
      | fn f args ins => exact fun r hr => (iter_mono hL k (n + m) hk).1 _ _ _ _ (h r hr)
      | lp f id s => exact fun r hr => (iter_mono hL k (n + m) hk).2 _ _ _ _ (h r hr)
    refine ⟨n + m, fun q' hq => ?_⟩
    rcases List.mem_cons.1 hq with rfl | hq
    · exact up m _ (by omega) hm
    · exact up n _ (by omega) (hn q' hq)
theorem ans_fn {E : Env} (hL : LibOk P E) (f : FuncId) (args : List V1) (ins : List AObj) : (ans P E).fn f args ins = (stepO P E (ans P E)).fn f args ins := by
  have fwd : ∀ r, (ans P E).fn f args ins = some r → (stepO P E (ans P E)).fn f args ins = some r := fun r h => by
    obtain ⟨n, hn⟩ := (ans_fn_iff hL).1 h
    cases n with
    | zero => cases hn
    | succ n =>
      obtain ⟨qs, hq⟩ := fs_stepFn hL f args ins _ r hn
      refine hq _ fun q _ => ?_
      cases q with
      | fn f args ins => exact fun r hr => (ans_fn_iff hL).2 ⟨n, hr⟩
      | lp f id s => exact fun r hr => (ans_lp_iff hL).2 ⟨n, hr⟩
  cases h : (stepO P E (ans P E)).fn f args ins with
  | none =>
    cases h2 : (ans P E).fn f args ins with
    | none => rfl
    | some r => rw [fwd r h2] at h; cases h
  | some r =>
    obtain ⟨qs, hq⟩ := fs_stepFn hL f args ins _ r h
    obtain ⟨n, hn⟩ := ans_fin hL qs
    exact (ans_fn_iff hL).2 ⟨n + 1, hq _ hn⟩
theorem ans_lp {E : Env} (hL : LibOk P E) (f : FuncId) (id : Nat) (s : St) : (ans P E).lp f id s = (stepO P E (ans P E)).lp f id s := by
  have fwd : ∀ r, (ans P E).lp f id s = some r → (stepO P E (ans P E)).lp f id s = some r := fun r h => by
    obtain ⟨n, hn⟩ := (ans_lp_iff hL).1 h
    cases n with
    | zero => cases hn
    | succ n =>
      obtain ⟨qs, hq⟩ := fs_stepLp (P := P) f id s _ r hn
      refine hq _ fun q _ => ?_
      cases q with
      | fn f args ins => exact fun r hr => (ans_fn_iff hL).2 ⟨n, hr⟩
      | lp f id s => exact fun r hr => (ans_lp_iff hL).2 ⟨n, hr⟩
  cases h : (stepO P E (ans P E)).lp f id s with
  | none =>
    cases h2 : (ans P E).lp f id s with
    | none => rfl
    | some r => rw [fwd r h2] at h; cases h
  | some r =>
    obtain ⟨qs, hq⟩ := fs_stepLp (P := P) f id s _ r h
    obtain ⟨n, hn⟩ := ans_fin hL qs
    exact (ans_lp_iff hL).2 ⟨n + 1, hq _ hn⟩
theorem iter_ok {E : Env} (hE : EnvOk P E) (hL : LibOk P E) : ∀ n, OraOk P (iter P E n)
  | 0 => ⟨fun f args ins res fin h => (by cases h), fun f id s e s' h => (by cases h)⟩
  | n + 1 => by
    have ih := iter_ok hE hL n
    refine ⟨fun f args ins res fin h => ?_, fun f id s e s' h => ?_⟩
    · have h : (stepO P E (iter P E n)).fn f args ins = some (res, fin) := h
      cases hl : E.lib f with
      | some g =>
        simp only [stepO, hl] at h
        exact hL.snd f g hl _ ih.fn _ _ _ _ h
      | none =>
        simp only [stepO, hl, execFn] at h
        split at h
        case h_2 => cases h
        case h_1 fn hf =>
          split at h
          case h_2 => cases h
          case h_1 code hb =>
            split at h
            case isFalse => cases h
            case isTrue h4 =>
              obtain ⟨⟨e, s'⟩, h1, h2⟩ := Option.bind_eq_some_iff.1 h
              have hrun := exec_snd hE hL.plain ih f code 0 _ e s' (fun u hu => by unfold loopsOf; rw [hf]; dsimp only; rw [hb]; dsimp only; rw [if_pos h4.2]; exact hu) ⟨fn, code, hf, hb, fun u hu => hu⟩ h1
              unfold finish at h2
              split at h2
              · rename_i he
                exact spec_of hE hf hb h4.1 hrun (.inl he) h2
              · rename_i he
                exact spec_of hE hf hb h4.1 hrun (.inr he) h2
              · cases h2
    · have h : (stepO P E (iter P E n)).lp f id s = some (e, s') := h
      cases hx : lookC id (loopsOf P f) with
      | none => simp only [stepO, hx] at h; cases h
      | some x =>
        simp only [stepO, hx] at h
        have hxm := lookC_mem hx
        refine ⟨x, hxm, fun w0 S0 G0 => ?_⟩
        obtain ⟨⟨e1, s1⟩, h1, h2⟩ := Option.bind_eq_some_iff.1 h
        have hrun := exec_snd hE hL.plain ih f x id s e1 s1 (loopsOf_in hxm) (inF_loop hxm) h1 w0 S0 G0
        unfold turn at h2
        split at h2
        · rename_i he
          obtain ⟨s2, h3, h4⟩ := Option.bind_eq_some_iff.1 h2
          obtain ⟨x', hx', hk⟩ := ih.lp _ _ _ _ _ h4
          have e3 := lookC_of loopsOf_at hx'
          rw [hx] at e3
          cases e3
          obtain ⟨k, hk⟩ := hk w0 S0 G0
          have he : e1 = .normal := he
          subst he
          exact ⟨_, .more hrun (.weak (weak_normO h3) hk)⟩
        · rename_i hne
          obtain ⟨s2, h3, h4⟩ := Option.bind_eq_some_iff.1 h2
          cases h4
          exact ⟨0, .done (hrun.post (weak_normO h3)) hne⟩
theorem ans_spec {E : Env} (hE : EnvOk P E) (hL : LibOk P E) {f : FuncId} {args : List V1} {ins : List AObj} {r : Res} (h : (ans P E).fn f args ins = some r) : Spec P f args ins r.1 r.2 := by
  obtain ⟨n, hn⟩ := (ans_fn_iff hL).1 h
  exact (iter_ok hE hL n).fn f args ins r.1 r.2 hn
theorem ans_run {E : Env} (hL : LibOk P E) {f : FuncId} {fn : Func} {code : Code} (hf : P.funcs[f]? = some fn) (hb : fn.body = some code) (hl : E.lib f = none) {n : Nat} {rs : List ResultVar} {ts : List Nat} (hd : distinct ((loops 0 code).map (·.1)) = true)
    (hn : fn.ntmps = n) (hrs : fn.results.toList = rs) (hts : fn.resultTypes.toList = ts) (h4 : rs.length ≤ 4) (args : List V1) (ins : List AObj) :
    (ans P E).fn f args ins = (exec E (ans P E) f 0 code (entryN args ins n)).bind (finish E f ins.length rs ts) := by
  rw [ans_fn hL]
  simp only [stepO, hl, execFn, hf, hb]
  rw [if_pos ⟨by rw [← hrs] at h4; simpa using h4, hd⟩, hn, hrs, hts]
theorem ans_loop {E : Env} (hL : LibOk P E) {f : FuncId} {fn : Func} {code x : Code} (hf : P.funcs[f]? = some fn) (hb : fn.body = some code) (hd : distinct ((loops 0 code).map (·.1)) = true) (id : Nat) (hx : lookC id (loops 0 code) = some x) (s : St) :
    (ans P E).lp f id s = (exec E (ans P E) f id x s).bind (turn E (ans P E) f id) := by
  rw [ans_lp hL]
  have : lookC id (loopsOf P f) = some x := by
    unfold loopsOf
    rw [hf]
    dsimp only
    rw [hb]
    dsimp only
    rw [if_pos hd]
    exact hx
  simp only [stepO, this]
end Go.E2
namespace Go.E2
open Go.RowKit
set_option linter.unusedVariables false
set_option linter.unusedSimpArgs false
def esOf (P : Program) : Nat → Nat → List Nat
  | 0, _ => []
  | n + 1, t => match P.underlying t with
    | some (.slice e) => [P.cellsOf e]
    | some (.struct F) => F.toList.flatMap fun f => esOf P n f.type
    | _ => List.replicate (P.cellsOf t) 0
def tyOf (P : Program) (t : Nat) : Option Ty :=
  match P.info? t, P.underlying t with
  | some i, some d => match i.zero with
    | some z => if z.cells.size = i.size ∧ z.cells.all (·.oneCell') = true then some {
        agg := d.isRow, size := i.size, bytes := i.bytes
        elem := match d with | .slice e => e | _ => 0
        fields := match d with | .struct F => F.toList.map fun f => (f.offset, f.type) | _ => []
        zero := z.cells.toList.map constAt
        es := esOf P 6 t
        str := match d with | .string => true | _ => false
        bool := match d with | .bool => true | _ => false
        int := match d with | .int k => some k | _ => none
        apl := match d with
          | .array n e => match P.info? e with
            | some i => (List.range n).map fun j => (j * i.size, e)
            | none => []
          | _ => [] } else none
    | none => none
  | _, _ => none
theorem tyOf_ok {P : Program} (t : Nat) (ty : Ty) (h : tyOf P t = some ty) : TyOk P t ty := by
  unfold tyOf at h
  split at h
  case h_2 => cases h
  case h_1 i d hi hd =>
    split at h
    case h_2 => cases h
    case h_1 z hz =>
      split at h
      case isFalse => cases h
      case isTrue hc =>
        simp only [Option.some.injEq] at h
        subst h
        refine ⟨⟨i, z, hi, rfl, rfl, hz, rfl, hc.1, hc.2⟩, ⟨d, hd, rfl⟩, fun he => ?_, fun hs => ?_, fun hs => ?_, fun k hk => ?_, fun hf => ?_, fun hf => ?_⟩
        · rw [hd]
          cases d <;> first | rfl | (exact absurd rfl he)
        · rw [hd]
          cases d <;> first | rfl | (simp at hs)
        · rw [hd]
          cases d <;> first | rfl | (simp at hs)
        · rw [hd]
          cases d <;> first | (simp at hk; done) | (simp at hk; subst hk; rfl)
        · cases d <;> first | (exact absurd rfl hf) | skip
          rename_i F
          refine ⟨F, hd, by simp, fun i q hq => ?_⟩
          obtain ⟨f, hf1, hf2⟩ := map_get hq
          rw [Array.getElem?_toList] at hf1
          exact ⟨f, hf1, by rw [← hf2], by rw [← hf2]⟩
        · cases d <;> first | (exact absurd rfl hf) | skip
          rename_i n e
          cases he : P.info? e with
          | none => simp [he] at hf
          | some i =>
            simp only [he]
            refine ⟨n, e, i, hd, he, by simp, fun j q hq => ?_⟩
            obtain ⟨k, hk, rfl⟩ := map_get hq
            rw [List.getElem?_range (by have := (List.getElem?_eq_some_iff.1 hk).1; simpa using this)] at hk
            cases hk
            rfl
def fnOf (P : Program) (f : FuncId) : Bool := match P.funcs[f]? with
  | some fn => !(fn.name == "runtime.NumGoroutine") && !fn.body.isNone
  | none => false
theorem fnOf_ok {P : Program} (f : FuncId) (h : fnOf P f = true) : FnOk P f := by
  unfold fnOf at h
  split at h
  case h_2 => cases h
  case h_1 fn hfn =>
    rw [Bool.and_eq_true] at h
    exact ⟨fn, hfn, by simpa using h.1, by simpa using h.2⟩
def tagsOf (P : Program) (t : TypeId) : Option (List Tag) := match P.underlying t with
  | some (.struct _) => if P.eqGuardType P.depth t = false then tagsD P 60 t else none
  | _ => none
theorem tagsOf_ok {P : Program} (t : Nat) (l : List Tag) (h : tagsOf P t = some l) : TagsOk P t l := by
  unfold tagsOf at h
  split at h
  · rename_i F hF
    split at h
    · rename_i hg; exact ⟨hg, ⟨F, hF⟩, h⟩
    · cases h
  · cases h
theorem envOk {P : Program} (M : Modes) (R : FuncId → List (List CM)) (hi : FuncId → Nat → Option Hint) (lib : FuncId → Option (Hand → List V1 → List AObj → Option (AV × List (Option AObj)))) (mv : Nat → Nat → Bool) (cl : FuncId → Option ClM) (mps : Nat → Bool) (h : P.follows .mixedOrders = true) (hm : ∀ t, mps t = true → MapOk P t) : EnvOk P ⟨tyOf P, fnOf P, tagsOf P, M, R, hi, plainOf P, lib, mv, cl, mps⟩ := ⟨tyOf_ok, fnOf_ok, tagsOf_ok, h, hm⟩
end Go.E2
