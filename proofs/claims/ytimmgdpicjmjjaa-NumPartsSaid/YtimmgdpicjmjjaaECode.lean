/- The engine, part 10: regions, code, functions. -/
import Derived.Test.YtimmgdpicjmjjaaEOps12
import Derived.Deep.LoopGhost
namespace Go.Eng
open Go.RowKit
set_option linter.unusedVariables false
set_option linter.unusedSimpArgs false
variable {ob : Obs} {c c' : Con} {w w' w0 : World} {S0 : Nat → Prop} {G0 G : Gh} {σ σ' σ1 : St} {a a' : Act} {P : Program}
/-- What is known of a program: types, functions. -/
structure Env where
  tab : Nat → Option Ty
  fns : FuncId → Bool
structure EnvOk (P : Program) (E : Env) : Prop where
  tab : ∀ t ty, E.tab t = some ty → TyOk P t ty
  fns : ∀ f, E.fns f = true → FnOk P f
  mixed : P.follows .mixedOrders = true
def RM.map {α β : Type} (f : α → β) : RM α → RM β
  | .ret a => .ret (f a)
  | .fail => .fail
  | .slot t k => .slot t fun v => (k v).map f
  | .obj q k => .obj q fun v => (k v).map f
theorem RM.val_map {α β : Type} (f : α → β) : ∀ m : RM α, (m.map f).val σ = (m.val σ).map f
  | .ret a => rfl
  | .fail => rfl
  | .slot t k => RM.val_map f (k (σ.slot t))
  | .obj q k => RM.val_map f (k (σ.ob q))
abbrev EffD := Eff × Option Dem
def pureE (m : RM Eff) : RM EffD := m.map fun e => (e, none)
def absOp (E : Env) (r : Option RT) (o : Oper) : RM EffD := match o.op with
  | .move x => pureE (absMove x)
  | .assign x => pureE (absMove x)
  | .pick x y z => pureE (absPick x y z)
  | .binOp op t x y ty => opnd x fun u => match u with
    | .one (.at (.pv (.bool _))) => match op with
      | .eql => pureE (absEqB E.tab false t x y)
      | .neq => pureE (absEqB E.tab true t x y)
      | _ => .fail
    | _ => pureE (absBinO op x y)
  | .unOp op t x => pureE (absUn op x)
  | .load t x => pureE (absLoad E.tab t x)
  | .store t x y => pureE (absStore E.tab t x y)
  | .alloc t => pureE (absAlloc E.tab t o.dst)
  | .box t x => pureE (absBox x o.dst)
  | .fieldAddr t x f => pureE (absFieldAddr E.tab t x f)
  | .indexAddr t x i => pureE (absIndexAddr E.tab t x i)
  | .convert src dst x => pureE (absConv E.tab src dst x)
  | .index t x i => pureE (absIndex E.tab t x i)
  | .slice t x lo hi none => pureE (absSlice E.tab t x lo hi)
  | .buildSlice t n parts => pureE (absBuildSlice E.tab t n parts o.dst)
  | .extract x i => pureE (absExtract x i)
  | .call cl => match cl.callee with
    | .value f => match r with
      | some r => (absCall E.tab E.fns r f cl.args cl.argTypes).map fun x => (x.1, some x.2)
      | none => .fail
    | .builtin .len => match cl.args.toList, cl.argTypes.toList with
      | [x], [t] => pureE (absLen E.tab t x)
      | _, _ => .fail
    | .builtin .append => match cl.args.toList, cl.argTypes.toList with
      | [x, y], [t, tx] => match E.tab tx with
        | some ty => if ty.elem = 0 then .fail else pureE (absAppend E.tab t o.dst x y)
        | none => .fail
      | _, _ => .fail
    | .builtin .min => match cl.args.toList with
      | [x, y] => pureE (absMin false x y)
      | _ => .fail
    | _ => .fail
  | _ => .fail
theorem val_pureE {m : RM Eff} {e : Eff} {dm : Option Dem} (h : (pureE m).val σ = some (e, dm)) : m.val σ = some e := by
  unfold pureE at h
  rw [RM.val_map] at h
  obtain ⟨x, h1, h2⟩ := Option.map_eq_some_iff.1 h
  cases h2
  exact h1
theorem done_op {E : Env} (hE : EnvOk P E) {r : Option RT} {o : Oper} {e : Eff} {dm : Option Dem} (h : (absOp E r o).val σ = some (e, dm)) (hd : ∀ d ∈ dm, d.ok P) : DoneW P w0 S0 G0 σ o e := by
  unfold absOp at h
  split at h
  case h_1 x ho => exact (done_move (.inl ho) (val_pureE h)).toW
  case h_2 x ho => exact (done_move (.inr ho) (val_pureE h)).toW
  case h_3 x y z ho => exact (done_pick ho (val_pureE h)).toW
  case h_4 op t x y ty ho =>
    replace h := val_opnd h
    split at h
    case h_1 =>
      split at h
      case h_1 => exact (done_eqB hE.tab (.inl rfl) ho (val_pureE h)).toW
      case h_2 => exact (done_eqB hE.tab (.inr rfl) ho (val_pureE h)).toW
      case h_3 => simp [RM.val] at h
    case h_2 => exact (done_bin ho (val_pureE h)).toW
  case h_5 op t x ho => exact (done_un ho (val_pureE h)).toW
  case h_6 t x ho => exact (done_load hE.tab ho (val_pureE h)).toW
  case h_7 t x y ho => exact (done_store hE.tab ho (val_pureE h)).toW
  case h_8 t ho => exact (done_alloc hE.tab ho (val_pureE h)).toW
  case h_9 t x ho => exact (done_box ho (val_pureE h)).toW
  case h_10 t x f ho => exact (done_fieldAddr hE.tab ho (val_pureE h)).toW
  case h_11 t x i ho => exact (done_indexAddr hE.tab ho (val_pureE h)).toW
  case h_12 src dst x ho => exact (done_conv hE.tab ho (val_pureE h)).toW
  case h_13 t x i ho => exact (done_index hE.tab ho (val_pureE h)).toW
  case h_14 t x lo hi ho => exact (done_slice hE.tab ho (val_pureE h)).toW
  case h_15 t n parts ho => exact (done_buildSlice hE.tab ho (val_pureE h)).toW
  case h_16 x i ho => exact (done_extract ho (val_pureE h)).toW
  case h_17 cl ho =>
    split at h
    case h_1 f hc =>
      cases r with
      | none => simp [RM.val] at h
      | some r =>
        dsimp only at h
        rw [RM.val_map] at h
        obtain ⟨x, h1, h2⟩ := Option.map_eq_some_iff.1 h
        cases h2
        exact done_call hE.fns ho hc (dm := x.2) h1 (hd x.2 rfl)
    case h_2 hc =>
      split at h
      case h_1 x t hx ht => exact (done_len hE.tab ho hc (Array.toList_inj.1 (by simpa using hx)) (Array.toList_inj.1 (by simpa using ht)) (val_pureE h)).toW
      case h_2 => simp [RM.val] at h
    case h_3 hc =>
      split at h
      case h_2 => simp [RM.val] at h
      case h_1 x y t tx hx ht =>
        split at h
        case h_2 => simp [RM.val] at h
        case h_1 ty hty =>
          split at h
          case isTrue => simp [RM.val] at h
          case isFalse he =>
            exact (done_append hE.tab ((hE.tab _ _ hty).slice he) ho hc (Array.toList_inj.1 (by simpa using hx)) (Array.toList_inj.1 (by simpa using ht)) (val_pureE h)).toW
    case h_4 hc =>
      split at h
      case h_1 x y hx => exact (done_min ho hc (Array.toList_inj.1 (by simpa using hx)) (val_pureE h)).toW
      case h_2 => simp [RM.val] at h
    case h_5 => simp [RM.val] at h
  case h_18 => simp [RM.val] at h
/-- With its guard. -/
def absG (E : Env) (ops : Array Oper) (r : Option RT) (o : Oper) : RM EffD := match o.guard with
  | none => absOp E r o
  | some (j, want) => match (ops[j]?).bind (·.dst) with
    | none => .fail
    | some s => .slot s fun v => match v with
      | .one (.at (.pv (.bool b))) => if b = want then absOp E r o else .ret (⟨.tup [], []⟩, none)
      | .tup [] => .ret (⟨.tup [], []⟩, none)
      | _ => .fail
theorem done_g {E : Env} (hE : EnvOk P E) {ops : Array Oper} {r : Option RT} {o : Oper} {e : Eff} {dm : Option Dem} (h : (absG E ops r o).val σ = some (e, dm)) (hd : ∀ d ∈ dm, d.ok P) (hR : Rel w0 S0 G0 σ c a w)
    {K : Act → World → Prop} {Q : Exit → Act → World → Prop} (hK : ∀ c' a' w', Rel w0 S0 G0 (σ.app o.dst e) c' a' w' → a'.tmps.size = a.tmps.size → K a' w') :
    if Region.wanted o (yielded ops a.tmps) then o.wp P a w K Q else K (a.put o.dst undef) w := by
  unfold absG at h
  cases hg : o.guard with
  | none =>
    rw [hg] at h
    rw [if_pos (by simp [Region.wanted, hg])]
    exact done_op hE h hd c a w hR K Q hK
  | some q =>
    obtain ⟨j, want⟩ := q
    rw [hg] at h
    dsimp only at h
    cases hs : (ops[j]?).bind (·.dst) with
    | none => rw [hs] at h; simp [RM.val] at h
    | some s =>
      rw [hs] at h
      simp only [RM.val] at h
      have hu : RepAV σ.ob c (.tup []) undef := ⟨#[], rfl, rfl, fun i x hx => by simp at hx⟩
      split at h
      case h_3 => simp [RM.val] at h
      case h_2 hb =>
        have hv := hR.slots s
        rw [hb] at hv
        obtain ⟨vs, hv, hsz, _⟩ := hv
        have hvs : vs = #[] := by simpa using hsz
        subst hvs
        have hy : yielded ops a.tmps j = none := by
          unfold yielded
          rw [hs]
          simp only [Option.bind_some]
          rcases Nat.lt_or_ge s a.tmps.size with h | h
          · rw [Array.getElem?_eq_getElem h]
            rw [Array.getD_eq_getD_getElem?, Array.getElem?_eq_getElem h] at hv
            simp only [Option.getD_some] at hv
            rw [hv]
          · rw [Array.getElem?_eq_none h]
        rw [if_neg (by simp [Region.wanted, hg, hy])]
        simp only [RM.val, Option.some.injEq, Prod.mk.injEq] at h
        obtain ⟨rfl, rfl⟩ := h
        exact hK c _ w (hR.setSlot o.dst (.tup []) undef hu) (Act.size_put _ _ _)
      case h_1 b hb =>
        have hv := hR.slots s
        rw [hb] at hv
        have hv := rep_bool hv
        have hlt : s < a.tmps.size := by
          rcases Nat.lt_or_ge s a.tmps.size with h | h
          · exact h
          · rw [Array.getD_eq_getD_getElem?, Array.getElem?_eq_none h] at hv
            simp [undef] at hv
        have hy : yielded ops a.tmps j = some b := by
          unfold yielded
          rw [hs]
          simp only [Option.bind_some, Array.getElem?_eq_getElem hlt]
          rw [Array.getD_eq_getD_getElem?, Array.getElem?_eq_getElem hlt] at hv
          simp only [Option.getD_some] at hv
          rw [hv]
        split at h
        case isTrue hw =>
          rw [if_pos (by simp [Region.wanted, hg, hy, hw])]
          exact done_op hE h hd c a w hR K Q hK
        case isFalse hw =>
          rw [if_neg (by simp [Region.wanted, hg, hy, hw])]
          simp only [RM.val, Option.some.injEq, Prod.mk.injEq] at h
          obtain ⟨rfl, rfl⟩ := h
          exact hK c _ w (hR.setSlot o.dst (.tup []) undef hu) (Act.size_put _ _ _)
/-- Operations, one by one. -/
inductive RO (P : Program) (E : Env) (ops : Array Oper) : List Oper → St → St → Prop where
  | nil {s} : RO P E ops [] s s
  | cons {o l s s1 s' e dm} (r : Option RT) : (absG E ops r o).val s = some (e, dm) → (∀ d ∈ dm, d.ok P) → s.app o.dst e = s1 → RO P E ops l s1 s' → RO P E ops (o :: l) s s'
theorem RO.wp {E : Env} (hE : EnvOk P E) {ops : Array Oper} {Q : Exit → Act → World → Prop} {n : Nat} {l : List Oper} (h : RO P E ops l σ σ') : ∀ {c : Con} {a : Act} {w : World}, Rel w0 S0 G0 σ c a w → a.tmps.size = n →
    (∀ c' a' w', Rel w0 S0 G0 σ' c' a' w' → a'.tmps.size = n → Q .normal a' w') → wpList P ops Q l a w := by
  induction h with
  | nil => intro c a w hR hn hQ; exact hQ c a w hR hn
  | cons r h1 h2 h3 h4 ih =>
    intro c a w hR hn hQ
    subst h3
    refine wpList_step fun K hK => done_g hE h1 h2 hR fun c' a' w' hR' hn' => hK _ _ ?_
    exact ih hR' (hn'.trans hn) hQ
/-- A state that says less. -/
def Weak (σ σ' : St) : Prop := ∀ w0 S0 G0 c a w, Rel w0 S0 G0 σ c a w → ∃ c', Rel w0 S0 G0 σ' c' a w
def outOf (id : Nat) : Exit → Exit
  | .exit id' => if id' = id then .normal else .exit id'
  | e => e
/-- What a run means. -/
def Snd (P : Program) (w0 : World) (S0 : Nat → Prop) (G0 : Gh) (x : Code) (σ : St) (e : Exit) (σ' : St) : Prop :=
  ∀ c a w, Rel w0 S0 G0 σ c a w → x.wp P (fun e' a' w' => e' = e ∧ ∃ c', Rel w0 S0 G0 σ' c' a' w') a w
inductive ARun (P : Program) (E : Env) : Code → St → Exit → St → Prop where
  | skip {s0} : ARun P E .skip s0 .normal s0
  | region {id ops s0 s'} : RO P E ops ops.toList s0 s' → ARun P E (.region id ops false) s0 .normal s'
  | drawn {id ops s0 s'} : (∀ w0 S0 G0, Snd P w0 S0 G0 (.region id ops true) s0 .normal s') → ARun P E (.region id ops true) s0 .normal s'
  | seq {x y s0 s1 s2 e} : ARun P E x s0 .normal s1 → ARun P E y s1 e s2 → ARun P E (.seq x y) s0 e s2
  | seqx {x y s0 s1 e} : ARun P E x s0 e s1 → e ≠ .normal → ARun P E (.seq x y) s0 e s1
  | cond {q x y s0 s' e} (b : Bool) : absO s0 q = .one (.at (.pv (.bool b))) → ARun P E (if b then x else y) s0 e s' → ARun P E (.cond q x y) s0 e s'
  | block {id x s0 s' e} : ARun P E x s0 e s' → ARun P E (.block id x) s0 (outOf id e) s'
  | loop {x s0 s1 s2 e} : ARun P E x s0 .normal s1 → ARun P E (.loop x) s1 e s2 → ARun P E (.loop x) s0 e s2
  | loopx {x s0 s1 e} : ARun P E x s0 e s1 → e ≠ .normal → ARun P E (.loop x) s0 e s1
  | exit {id s0} : ARun P E (.exit id) s0 (.exit id) s0
  | ret {s0} : ARun P E .ret s0 .ret s0
  | weak {x s0 s1 s2 e} : Weak s0 s1 → ARun P E x s1 e s2 → ARun P E x s0 e s2
  | post {x s0 s1 s2 e} : ARun P E x s0 e s1 → Weak s1 s2 → ARun P E x s0 e s2
inductive LChain (P : Program) (w0 : World) (S0 : Nat → Prop) (G0 : Gh) (x : Code) (e : Exit) (σ' : St) : Nat → St → Prop where
  | done {s} : Snd P w0 S0 G0 x s e σ' → e ≠ .normal → LChain P w0 S0 G0 x e σ' 0 s
  | more {n s s1} : Snd P w0 S0 G0 x s .normal s1 → LChain P w0 S0 G0 x e σ' n s1 → LChain P w0 S0 G0 x e σ' (n + 1) s
  | weak {n s s1} : Weak s s1 → LChain P w0 S0 G0 x e σ' n s1 → LChain P w0 S0 G0 x e σ' n s
theorem LChain.round {x : Code} {e : Exit} {n : Nat} (h : LChain P w0 S0 G0 x e σ' n σ) (hR : Rel w0 S0 G0 σ c a w) :
    x.wp P (Exit.then (fun a' w' => ∃ n', n' < n ∧ ∃ σ1 c1, LChain P w0 S0 G0 x e σ' n' σ1 ∧ Rel w0 S0 G0 σ1 c1 a' w') (fun e' a' w' => e' = e ∧ ∃ c', Rel w0 S0 G0 σ' c' a' w')) a w := by
  induction h generalizing c with
  | done hs hne =>
    refine Code.wp_mono ?_ (hs c a w hR)
    rintro e' a' w' ⟨rfl, hR'⟩
    cases e' <;> first | exact absurd rfl hne | exact ⟨rfl, hR'⟩
  | more hs hl _ =>
    refine Code.wp_mono ?_ (hs c a w hR)
    rintro e' a' w' ⟨rfl, c', hR'⟩
    exact ⟨_, Nat.lt_succ_self _, _, c', hl, hR'⟩
  | weak hw hl ih =>
    obtain ⟨c', hR'⟩ := hw _ _ _ _ _ _ hR
    exact ih hR'
theorem LChain.snd {x : Code} {e : Exit} {n : Nat} (h : LChain P w0 S0 G0 x e σ' n σ) : Snd P w0 S0 G0 (.loop x) σ e σ' := by
  intro c a w hR
  refine wp_loop_ghost (fun n a w => ∃ σ1 c1, LChain P w0 S0 G0 x e σ' n σ1 ∧ Rel w0 S0 G0 σ1 c1 a w) n ⟨σ, c, h, hR⟩ ?_
  rintro n a w ⟨σ1, c1, hl, hR⟩
  exact hl.round hR
theorem Snd.post {x : Code} {e : Exit} {σ2 : St} (h : Snd P w0 S0 G0 x σ e σ') (hw : Weak σ' σ2) : Snd P w0 S0 G0 x σ e σ2 := by
  intro c a w hR
  refine Code.wp_mono ?_ (h c a w hR)
  rintro e' a' w' ⟨rfl, c', hR'⟩
  exact ⟨rfl, hw _ _ _ _ _ _ hR'⟩
theorem LChain.post {x : Code} {e : Exit} {n : Nat} {σ2 : St} (h : LChain P w0 S0 G0 x e σ' n σ) (hw : Weak σ' σ2) : LChain P w0 S0 G0 x e σ2 n σ := by
  induction h with
  | done hs hne => exact .done (hs.post hw) hne
  | more hs hl ih => exact .more hs ih
  | weak h1 hl ih => exact .weak h1 ih
theorem ARun.snd {E : Env} (hE : EnvOk P E) {x : Code} {e : Exit} (h : ARun P E x σ e σ') : Snd P w0 S0 G0 x σ e σ' ∧ ∀ y, x = .loop y → ∃ n, LChain P w0 S0 G0 y e σ' n σ := by
  induction h with
  | skip => exact ⟨fun c a w hR => wp_skip ⟨rfl, c, hR⟩, by simp⟩
  | region h1 => exact ⟨fun c a w hR => wp_region_list (h1.wp hE hR rfl fun c' a' w' hR' _ => ⟨rfl, c', hR'⟩), by simp⟩
  | drawn h1 => exact ⟨h1 _ _ _, by simp⟩
  | seq h1 h2 ih1 ih2 =>
    refine ⟨fun c a w hR => wp_seq (Code.wp_mono ?_ (ih1.1 c a w hR)), by simp⟩
    rintro e' a' w' ⟨rfl, c', hR'⟩
    exact ih2.1 c' a' w' hR'
  | seqx h1 hne ih1 =>
    refine ⟨fun c a w hR => wp_seq (Code.wp_mono ?_ (ih1.1 c a w hR)), by simp⟩
    rintro e' a' w' ⟨rfl, hR'⟩
    cases e' <;> first | exact absurd rfl hne | exact ⟨rfl, hR'⟩
  | @cond q x y s2 s3 e2 b hb h1 ih =>
    refine ⟨fun c a w hR => ?_, by simp⟩
    have hx := hR.opnd q
    rw [hb] at hx
    exact wp_cond (rep_bool hx) (by cases b <;> exact ih.1 c a w hR)
  | block h1 ih =>
    refine ⟨fun c a w hR => wp_block (Code.wp_mono ?_ (ih.1 c a w hR)), by simp⟩
    rintro e' a' w' ⟨rfl, hR'⟩
    cases e' <;> first | exact ⟨rfl, hR'⟩ | skip
    rename_i id'
    show if id' = _ then _ else _
    split
    · rename_i q; subst q; exact ⟨by simp [outOf], hR'⟩
    · rename_i q; exact ⟨by simp [outOf, q], hR'⟩
  | loop h1 h2 ih1 ih2 =>
    obtain ⟨n, hl⟩ := ih2.2 _ rfl
    have L := LChain.more ih1.1 hl
    exact ⟨L.snd, fun y hy => by cases hy; exact ⟨_, L⟩⟩
  | loopx h1 hne ih1 =>
    have L := LChain.done ih1.1 hne
    exact ⟨L.snd, fun y hy => by cases hy; exact ⟨_, L⟩⟩
  | exit => exact ⟨fun c a w hR => wp_exit ⟨rfl, c, hR⟩, by simp⟩
  | ret => exact ⟨fun c a w hR => wp_ret ⟨rfl, c, hR⟩, by simp⟩
  | weak hw h1 ih =>
    refine ⟨fun c a w hR => ?_, fun y hy => ?_⟩
    · obtain ⟨c', hR'⟩ := hw _ _ _ _ _ _ hR
      exact ih.1 c' a w hR'
    · obtain ⟨n, hl⟩ := ih.2 y hy
      exact ⟨n, .weak hw hl⟩
  | post h1 hw ih => exact ⟨ih.1.post hw, fun y hy => let ⟨n, hl⟩ := ih.2 y hy; ⟨n, hl.post hw⟩⟩
end Go.Eng
