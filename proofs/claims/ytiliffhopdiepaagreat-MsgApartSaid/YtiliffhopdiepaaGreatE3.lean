/- The engine, part 3: VCode, VOps14, VOps15. -/
import Derived.Deep.LoopGhost
import Derived.Test.YtiliffhopdiepaaGreatE2
namespace Go.E2
open Go.RowKit
set_option linter.unusedVariables false
set_option linter.unusedSimpArgs false
variable {ob : Obs} {c c' : Con} {w w' w0 : World} {S0 : Own} {G0 G : Gh} {σ σ' σ1 : St} {a a' : Act} {P : Program}
structure Hint where
  head : List (Nat × List CM)
  exit : List (Nat × List CM)
structure Env where
  tab : Nat → Option Ty
  fns : FuncId → Bool
  tags : Nat → Option (List Tag)
  M : Modes
  R : FuncId → List (List CM)
  hint : FuncId → Nat → Option Hint
  plain : FuncId → Nat → Bool
  lib : FuncId → Option (Hand → List V1 → List AObj → Option (AV × List (Option AObj)))
  mv : Nat → Nat → Bool
  cl : FuncId → Option ClM
  mps : Nat → Bool
def Env.cuts (E : Env) (t : Nat) : Option Nat → Bool
  | some d => E.mv t d
  | none => false
structure EnvOk (P : Program) (E : Env) : Prop where
  tab : ∀ t ty, E.tab t = some ty → TyOk P t ty
  fns : ∀ f, E.fns f = true → FnOk P f
  tags : ∀ t l, E.tags t = some l → TagsOk P t l
  mixed : P.follows .mixedOrders = true
  mps : ∀ t, E.mps t = true → MapOk P t
def absOp (E : Env) (H : Hand) (o : Oper) : RM Eff := match o.op with
  | .move x => absMove x
  | .assign x => absMove x
  | .pick x y z => absPick x y z
  | .binOp op t x y ty => opnd x fun u => match u with
    | .one (.at (.pv (.bool _))) => match op with
      | .eql => absEqB E.tab false t x y
      | .neq => absEqB E.tab true t x y
      | _ => .fail
    | .one (.agg _) => match op with
      | .eql => absEqS E.tags false t x y
      | .neq => absEqS E.tags true t x y
      | _ => .fail
    | _ => absBinO op x y
  | .unOp op t x => absUn op x
  | .load t x => absLoad E.tab t x
  | .store t x y => opnd x fun u => match u with
    | .one (.at (.eptr _ _ _ _)) => absStoreE E.tab t x y
    | _ => absStore E.tab t x y
  | .alloc t => absAlloc E.tab t o.dst
  | .box t x => absBox x o.dst
  | .fieldAddr t x f => absFieldAddr E.tab t x f
  | .field t x f => absField E.tab t x f
  | .indexAddr t x i => absIndexAddr E.tab t x i
  | .convert src dst x => opnd x fun u => match u with
    | .one (.at (.pv (.list _ _))) => absBStr E.tab src dst x
    | .one (.at .nil) => absBStr E.tab src dst x
    | _ => absConv E.tab src dst x
  | .index t x i => absIndex E.tab t x i
  | .slice t x lo hi none => opnd x fun u => match u with
    | .one (.at (.row _ _)) => if E.cuts t o.dst = true then absCut E.tab t x lo hi else absSlice E.tab t x lo hi
    | _ => absSlice E.tab t x lo hi
  | .buildSlice t n parts => absBuildSlice E.tab t n parts o.dst
  | .extract x i => absExtract x i
  | .build t parts => absBuild E.tab t parts.toList
  | .makeFunc fn first captured => match fn with
    | .func f => match E.cl f with
      | some .own => absMakeOwn fn first.toList captured.toList
      | some (.frz ess) => absMakeFrz ess fn first.toList captured.toList
      | none => absMakeFunc fn first.toList captured.toList
    | _ => .fail
  | .makeMap t none => absMakeMap E.mps t o.dst
  | .lookup t x i false => absLookup E.mps t x i
  | .mapUpdate t x i y => absUpdate E.mps t x i y
  | .nilCheck x => absNil x
  | .makeSlice t x y => absMakeSl E.tab t o.dst x y
  | .call cl => match cl.callee with
    | .value f => absCall E.tab E.fns E.M H o.dst f cl.args cl.argTypes
    | .builtin .len => match cl.args.toList, cl.argTypes.toList with
      | [x], [t] => absLen E.tab t x
      | _, _ => .fail
    | .builtin .append => match cl.args.toList, cl.argTypes.toList with
      | [x, y], [t, tx] => match E.tab tx with
        | some ty => if ty.elem = 0 then (if ty.str = true then absAppend E.tab true t o.dst x y else .fail) else absAppend E.tab false t o.dst x y
        | none => .fail
      | _, _ => .fail
    | .builtin .min => match cl.args.toList with
      | [x, y] => absMin false x y
      | _ => .fail
    | .builtin .max => match cl.args.toList with
      | [x, y] => absMin true x y
      | _ => .fail
    | .builtin .clear => match cl.args.toList, cl.argTypes.toList with
      | [x], [t] => absClear E.tab t x
      | _, _ => .fail
    | _ => .fail
  | _ => .fail
theorem done_op {E : Env} {H : Hand} (hE : EnvOk P E) (hH : HandOk P H) {o : Oper} {e : Eff} (h : (absOp E H o).val σ = some e) : DoneW P w0 S0 G0 σ o e := by
  unfold absOp at h
  split at h
  case h_1 x ho => exact (done_move (.inl ho) h).toW
  case h_2 x ho => exact (done_move (.inr ho) h).toW
  case h_3 x y z ho => exact (done_pick ho h).toW
  case h_4 op t x y ty ho =>
    replace h := val_opnd h
    split at h
    case h_1 =>
      split at h
      case h_1 => exact (done_eqB hE.tab (.inl rfl) ho h).toW
      case h_2 => exact (done_eqB hE.tab (.inr rfl) ho h).toW
      case h_3 => simp [RM.val] at h
    case h_2 =>
      split at h
      case h_1 => exact (done_eqS hE.tags (.inl rfl) ho h).toW
      case h_2 => exact (done_eqS hE.tags (.inr rfl) ho h).toW
      case h_3 => simp [RM.val] at h
    case h_3 => exact (done_bin ho h).toW
  case h_5 op t x ho => exact (done_un ho h).toW
  case h_6 t x ho => exact (done_load hE.tab ho h).toW
  case h_7 t x y ho =>
    replace h := val_opnd h
    split at h
    case h_1 => exact (done_storeE hE.tab ho h).toW
    case h_2 => exact (done_store hE.tab ho h).toW
  case h_8 t ho => exact (done_alloc hE.tab ho h).toW
  case h_9 t x ho => exact (done_box ho h).toW
  case h_10 t x f ho => exact (done_fieldAddr hE.tab ho h).toW
  case h_11 t x f ho => exact (done_field hE.tab ho h).toW
  case h_12 t x i ho => exact (done_indexAddr hE.tab ho h).toW
  case h_13 src dst x ho =>
    replace h := val_opnd h
    split at h
    case h_1 => exact (done_bstr hE.tab ho h).toW
    case h_2 => exact (done_bstr hE.tab ho h).toW
    case h_3 => exact (done_conv hE.tab ho h).toW
  case h_14 t x i ho => exact (done_index hE.tab ho h).toW
  case h_15 t x lo hi ho =>
    replace h := val_opnd h
    split at h
    case h_1 =>
      split at h
      case isTrue => exact (done_cut hE.tab ho h).toW
      case isFalse => exact (done_slice hE.tab ho h).toW
    case h_2 => exact (done_slice hE.tab ho h).toW
  case h_16 t n parts ho => exact (done_buildSlice hE.tab ho h).toW
  case h_17 x i ho => exact (done_extract ho h).toW
  case h_18 t parts ho => exact (done_build hE.tab ho h).toW
  case h_19 fn first captured ho =>
    split at h
    case h_1 f =>
      split at h
      case h_1 => exact (done_makeOwn ho h).toW
      case h_2 ess => exact (done_makeFrz ho h).toW
      case h_3 => exact (done_makeFunc ho h).toW
    case h_2 => simp [RM.val] at h
  case h_20 t ho => exact (done_makeMap ho h).toW
  case h_21 t x i ho => exact (done_lookup hE.mps ho h).toW
  case h_22 t x i y ho => exact (done_update hE.mps ho h).toW
  case h_23 x ho => exact (done_nil ho h).toW
  case h_24 t x y ho => exact (done_makeSl hE.tab ho h).toW
  case h_25 cl ho =>
    split at h
    case h_1 f hc => exact done_call hE.fns hH ho hc h
    case h_2 hc =>
      split at h
      case h_1 x t hx ht => exact (done_len hE.tab ho hc (Array.toList_inj.1 (by simpa using hx)) (Array.toList_inj.1 (by simpa using ht)) h).toW
      case h_2 => simp [RM.val] at h
    case h_3 hc =>
      split at h
      case h_2 => simp [RM.val] at h
      case h_1 x y t tx hx ht =>
        split at h
        case h_2 => simp [RM.val] at h
        case h_1 ty hty =>
          split at h
          case isTrue he =>
            split at h
            case isFalse => simp [RM.val] at h
            case isTrue hs =>
              exact (done_append hE.tab (show SrcTy P tx true from (hE.tab _ _ hty).str hs) ho hc (Array.toList_inj.1 (by simpa using hx)) (Array.toList_inj.1 (by simpa using ht)) h).toW
          case isFalse he =>
            exact (done_append hE.tab (show SrcTy P tx false from ⟨_, (hE.tab _ _ hty).slice he⟩) ho hc (Array.toList_inj.1 (by simpa using hx)) (Array.toList_inj.1 (by simpa using ht)) h).toW
    case h_4 hc =>
      split at h
      case h_1 x y hx => exact (done_min ho hc (Array.toList_inj.1 (by simpa using hx)) h).toW
      case h_2 => simp [RM.val] at h
    case h_5 hc =>
      split at h
      case h_1 x y hx => exact (done_max ho hc (Array.toList_inj.1 (by simpa using hx)) h).toW
      case h_2 => simp [RM.val] at h
    case h_6 hc =>
      split at h
      case h_1 x t hx ht => exact (done_clear hE.tab ho hc (Array.toList_inj.1 (by simpa using hx)) (Array.toList_inj.1 (by simpa using ht)) h).toW
      case h_2 => simp [RM.val] at h
    case h_7 => simp [RM.val] at h
  case h_26 => simp [RM.val] at h
def absG (E : Env) (H : Hand) (ops : Array Oper) (o : Oper) : RM Eff := match o.guard with
  | none => absOp E H o
  | some (j, want) => match (ops[j]?).bind (·.dst) with
    | none => .fail
    | some s => .slot s fun v => match v with
      | .one (.at (.pv (.bool b))) => if b = want then absOp E H o else .ret ⟨.tup [], []⟩
      | .tup [] => .ret ⟨.tup [], []⟩
      | _ => .fail
theorem done_g {E : Env} {H : Hand} (hE : EnvOk P E) (hH : HandOk P H) {ops : Array Oper} {o : Oper} {e : Eff} (h : (absG E H ops o).val σ = some e) (hR : Rel w0 S0 G0 σ c a w)
    {K : Act → World → Prop} {Q : Exit → Act → World → Prop} (hK : ∀ c' a' w', Rel w0 S0 G0 (σ.app o.dst e) c' a' w' → a'.tmps.size = a.tmps.size → K a' w') :
    if Region.wanted o (yielded ops a.tmps) then o.wp P a w K Q else K (a.put o.dst undef) w := by
  unfold absG at h
  cases hg : o.guard with
  | none =>
    rw [hg] at h
    rw [if_pos (by simp [Region.wanted, hg])]
    exact done_op hE hH h c a w hR K Q hK
  | some q =>
    obtain ⟨j, want⟩ := q
    rw [hg] at h
    dsimp only at h
    cases hs : (ops[j]?).bind (·.dst) with
    | none => rw [hs] at h; simp [RM.val] at h
    | some s =>
      rw [hs] at h
      simp only [RM.val] at h
      have hu : RepAV σ.ob c (.tup []) undef := ⟨#[], rfl, rfl, fun i x hx => by simp at hx⟩
      split at h
      case h_3 => simp [RM.val] at h
      case h_2 hb =>
        have hv := hR.slots s
        rw [hb] at hv
        obtain ⟨vs, hv, hsz, _⟩ := hv
        have hvs : vs = #[] := by simpa using hsz
        subst hvs
        have hy : yielded ops a.tmps j = none := by
          unfold yielded
          rw [hs]
          simp only [Option.bind_some]
          rcases Nat.lt_or_ge s a.tmps.size with h | h
          · rw [Array.getElem?_eq_getElem h]
            rw [Array.getD_eq_getD_getElem?, Array.getElem?_eq_getElem h] at hv
            simp only [Option.getD_some] at hv
            rw [hv]
          · rw [Array.getElem?_eq_none h]
        rw [if_neg (by simp [Region.wanted, hg, hy])]
        simp only [RM.val, Option.some.injEq] at h
        subst h
        exact hK c _ w (hR.setSlot o.dst (.tup []) undef hu) (Act.size_put _ _ _)
      case h_1 b hb =>
        have hv := hR.slots s
        rw [hb] at hv
        have hv := rep_bool hv
        have hlt : s < a.tmps.size := by
          rcases Nat.lt_or_ge s a.tmps.size with h | h
          · exact h
          · rw [Array.getD_eq_getD_getElem?, Array.getElem?_eq_none h] at hv
            simp [undef] at hv
        have hy : yielded ops a.tmps j = some b := by
          unfold yielded
          rw [hs]
          simp only [Option.bind_some, Array.getElem?_eq_getElem hlt]
          rw [Array.getD_eq_getD_getElem?, Array.getElem?_eq_getElem hlt] at hv
          simp only [Option.getD_some] at hv
          rw [hv]
        split at h
        case isTrue hw =>
          rw [if_pos (by simp [Region.wanted, hg, hy, hw])]
          exact done_op hE hH h c a w hR K Q hK
        case isFalse hw =>
          rw [if_neg (by simp [Region.wanted, hg, hy, hw])]
          simp only [RM.val, Option.some.injEq] at h
          subst h
          exact hK c _ w (hR.setSlot o.dst (.tup []) undef hu) (Act.size_put _ _ _)
def runOps (E : Env) (H : Hand) (ops : Array Oper) : List Oper → St → Option St
  | [], s => some s
  | o :: l, s => match (absG E H ops o).val s with
    | some e => runOps E H ops l (s.app o.dst e)
    | none => none
theorem runOps_wp {E : Env} {H : Hand} (hE : EnvOk P E) (hH : HandOk P H) {ops : Array Oper} {Q : Exit → Act → World → Prop} {n : Nat} : ∀ {l : List Oper} {σ : St}, runOps E H ops l σ = some σ' → ∀ {c : Con} {a : Act} {w : World}, Rel w0 S0 G0 σ c a w → a.tmps.size = n →
    (∀ c' a' w', Rel w0 S0 G0 σ' c' a' w' → a'.tmps.size = n → Q .normal a' w') → wpList P ops Q l a w
  | [], σ, h => by
    cases h
    intro hR hn hQ
    exact hQ _ _ _ hR hn
  | o :: l, σ, h => by
    intro hR hn hQ
    simp only [runOps] at h
    split at h
    case h_2 => cases h
    case h_1 e he =>
      refine wpList_step fun K hK => done_g hE hH he hR fun c' a' w' hR' hn' => hK _ _ ?_
      exact runOps_wp hE hH h hR' (hn'.trans hn) hQ
def Weak (σ σ' : St) : Prop := ∀ w0 S0 G0 c a w, Rel w0 S0 G0 σ c a w → ∃ c', Rel w0 S0 G0 σ' c' a w
def outOf (id : Nat) : Exit → Exit
  | .exit id' => if id' = id then .normal else .exit id'
  | e => e
def Snd (P : Program) (w0 : World) (S0 : Own) (G0 : Gh) (x : Code) (σ : St) (e : Exit) (σ' : St) : Prop :=
  ∀ c a w, Rel w0 S0 G0 σ c a w → x.wp P (fun e' a' w' => e' = e ∧ ∃ c', Rel w0 S0 G0 σ' c' a' w') a w
inductive LChain (P : Program) (w0 : World) (S0 : Own) (G0 : Gh) (x : Code) (e : Exit) (σ' : St) : Nat → St → Prop where
  | done {s} : Snd P w0 S0 G0 x s e σ' → e ≠ .normal → LChain P w0 S0 G0 x e σ' 0 s
  | more {n s s1} : Snd P w0 S0 G0 x s .normal s1 → LChain P w0 S0 G0 x e σ' n s1 → LChain P w0 S0 G0 x e σ' (n + 1) s
  | weak {n s s1} : Weak s s1 → LChain P w0 S0 G0 x e σ' n s1 → LChain P w0 S0 G0 x e σ' n s
theorem LChain.round {x : Code} {e : Exit} {n : Nat} (h : LChain P w0 S0 G0 x e σ' n σ) (hR : Rel w0 S0 G0 σ c a w) :
    x.wp P (Exit.then (fun a' w' => ∃ n', n' < n ∧ ∃ σ1 c1, LChain P w0 S0 G0 x e σ' n' σ1 ∧ Rel w0 S0 G0 σ1 c1 a' w') (fun e' a' w' => e' = e ∧ ∃ c', Rel w0 S0 G0 σ' c' a' w')) a w := by
  induction h generalizing c with
  | done hs hne =>
    refine Code.wp_mono ?_ (hs c a w hR)
    rintro e' a' w' ⟨rfl, hR'⟩
    cases e' <;> first | exact absurd rfl hne | exact ⟨rfl, hR'⟩
  | more hs hl _ =>
    refine Code.wp_mono ?_ (hs c a w hR)
    rintro e' a' w' ⟨rfl, c', hR'⟩
    exact ⟨_, Nat.lt_succ_self _, _, c', hl, hR'⟩
  | weak hw hl ih =>
    obtain ⟨c', hR'⟩ := hw _ _ _ _ _ _ hR
    exact ih hR'
theorem LChain.snd {x : Code} {e : Exit} {n : Nat} (h : LChain P w0 S0 G0 x e σ' n σ) : Snd P w0 S0 G0 (.loop x) σ e σ' := by
  intro c a w hR
  refine wp_loop_ghost (fun n a w => ∃ σ1 c1, LChain P w0 S0 G0 x e σ' n σ1 ∧ Rel w0 S0 G0 σ1 c1 a w) n ⟨σ, c, h, hR⟩ ?_
  rintro n a w ⟨σ1, c1, hl, hR⟩
  exact hl.round hR
theorem Snd.post {x : Code} {e : Exit} {σ2 : St} (h : Snd P w0 S0 G0 x σ e σ') (hw : Weak σ' σ2) : Snd P w0 S0 G0 x σ e σ2 := by
  intro c a w hR
  refine Code.wp_mono ?_ (h c a w hR)
  rintro e' a' w' ⟨rfl, c', hR'⟩
  exact ⟨rfl, hw _ _ _ _ _ _ hR'⟩
theorem LChain.post {x : Code} {e : Exit} {n : Nat} {σ2 : St} (h : LChain P w0 S0 G0 x e σ' n σ) (hw : Weak σ' σ2) : LChain P w0 S0 G0 x e σ2 n σ := by
  induction h with
  | done hs hne => exact .done (hs.post hw) hne
  | more hs hl ih => exact .more hs ih
  | weak h1 hl ih => exact .weak h1 ih
end Go.E2
namespace Go.E2
open Go.RowKit
set_option linter.unusedVariables false
set_option linter.unusedSimpArgs false
variable {ob : Obs} {c c' : Con} {w w' w0 : World} {S0 : Own} {G0 G : Gh} {σ σ' σ1 : St} {a a' : Act} {P : Program}
structure Foot where
  slots : List Nat
  objs : List Nat
  lays : List Nat
inductive RD (E : Env) (H : Hand) (ops : Array Oper) : List Oper → St → St → List Foot → Prop where
  | nil {s} : RD E H ops [] s s []
  | cons {o l s s1 s' e fs ts qs ls} : (absG E H ops o).val s = some e → s.app o.dst e = s1 → (absG E H ops o).sees s = (ts, qs) → e.upd.map (·.1) = ls → RD E H ops l s1 s' fs → RD E H ops (o :: l) s s' (⟨ts, qs, ls⟩ :: fs)
theorem RD.states {E : Env} {H : Hand} {ops : Array Oper} {l : List Oper} {fs : List Foot} (h : RD E H ops l σ σ' fs) : ∃ S : Nat → St, S 0 = σ ∧ S l.length = σ' ∧ ∀ (i : Nat) (o : Oper), l[i]? = some o →
    ∃ e f, fs[i]? = some f ∧ (absG E H ops o).val (S i) = some e ∧ S (i + 1) = (S i).app o.dst e ∧ (absG E H ops o).sees (S i) = (f.slots, f.objs) ∧ e.upd.map (·.1) = f.lays := by
  induction h with
  | @nil s => exact ⟨fun _ => s, rfl, rfl, fun i o h => by simp at h⟩
  | @cons o l s s1 s' e fs ts qs ls h1 h3 h4 h5 h6 ih =>
    obtain ⟨S, e0, en, hS⟩ := ih
    refine ⟨fun i => match i with | 0 => s | i + 1 => S i, rfl, en, fun i o' ho => ?_⟩
    cases i with
    | zero =>
      simp at ho
      subst ho
      exact ⟨e, ⟨ts, qs, ls⟩, rfl, h1, e0.trans h3.symm, h4, h5⟩
    | succ i =>
      simp only [List.getElem?_cons_succ] at ho ⊢
      exact hS i o' ho
def edgesOf (ops : Array Oper) (i : Nat) : List Nat := match ops[i]? with
  | none => []
  | some o => (o.after.toList.filter fun e => Region.binds .any e).map (·.on)
def ancs (ops : Array Oper) : List (List Nat) := (List.range ops.size).foldl (fun acc i => acc ++ [((edgesOf ops i).flatMap fun e => e :: acc.getD e []).eraseDups]) []
def wrS (ops : Array Oper) (i t : Nat) : Bool := (ops[i]?).bind (·.dst) == some t
def footOf (fs : List Foot) (i : Nat) : Foot := fs.getD i ⟨[], [], []⟩
def clash (ops : Array Oper) (fs : List Foot) (j i : Nat) : Bool :=
  ((ops[j]?).bind (·.dst)).any (fun d => (footOf fs i).slots.contains d || wrS ops i d) || ((ops[i]?).bind (·.dst)).any (fun d => (footOf fs j).slots.contains d) ||
  (footOf fs j).lays.any (fun q => (footOf fs i).objs.contains q || (footOf fs i).lays.contains q) || (footOf fs i).lays.any (fun q => (footOf fs j).objs.contains q)
def okWith (ops : Array Oper) (fs : List Foot) (A : List (List Nat)) : Bool := (List.range ops.size).all fun i =>
  (edgesOf ops i).all (fun e => decide (e < i)) && (A.getD i []).all (fun x => (edgesOf ops i).any fun e => e == x || (A.getD e []).contains x) && (List.range i).all fun j => !clash ops fs j i || (A.getD i []).contains j
theorem okWith_spec {ops : Array Oper} {fs : List Foot} {A : List (List Nat)} (h : okWith ops fs A = true) {i : Nat} (hi : i < ops.size) :
    (∀ e ∈ edgesOf ops i, e < i) ∧ (∀ x ∈ A.getD i [], ∃ e ∈ edgesOf ops i, e = x ∨ x ∈ A.getD e []) ∧ ∀ j, j < i → clash ops fs j i = true → j ∈ A.getD i [] := by
  have h1 := List.all_eq_true.1 h i (List.mem_range.2 hi)
  rw [Bool.and_eq_true, Bool.and_eq_true] at h1
  obtain ⟨⟨h1, h2⟩, h3⟩ := h1
  refine ⟨fun e he => by simpa using List.all_eq_true.1 h1 e he, fun x hx => ?_, fun j hj hc => ?_⟩
  · obtain ⟨e, he, h4⟩ := List.any_eq_true.1 (List.all_eq_true.1 h2 x hx)
    refine ⟨e, he, ?_⟩
    rw [Bool.or_eq_true] at h4
    rcases h4 with h4 | h4
    · exact .inl (by simpa using h4)
    · exact .inr (by simpa using h4)
  · have h4 := List.all_eq_true.1 h3 j (List.mem_range.2 hj)
    rw [hc] at h4
    simpa using h4
theorem slot_app_ne {d : Option Nat} {e : Eff} {t : Nat} (h : d ≠ some t) : (σ.app d e).slot t = σ.slot t := by
  unfold St.app St.put
  cases d with
  | none => rfl
  | some d =>
    have : d ≠ t := fun q => h (by rw [q])
    unfold St.slot
    dsimp only
    rw [List.getD_eq_getElem?_getD, List.getD_eq_getElem?_getD, List.getElem?_set_ne this]
    rfl
theorem slot_app_eq {e : Eff} {t : Nat} (h : σ.slots.length = σ1.slots.length) : (σ.app (some t) e).slot t = (σ1.app (some t) e).slot t := by
  unfold St.app St.put St.slot
  dsimp only
  rw [List.getD_eq_getElem?_getD, List.getD_eq_getElem?_getD, List.getElem?_set_self', List.getElem?_set_self']
  have : (σ.lays e.upd).slots.length = (σ1.lays e.upd).slots.length := h
  by_cases ht : t < (σ.lays e.upd).slots.length
  · rw [List.getElem?_eq_getElem ht, List.getElem?_eq_getElem (by omega)]
    rfl
  · rw [List.getElem?_eq_none (by omega), List.getElem?_eq_none (by omega)]
theorem ob_app (d : Option Nat) (e : Eff) : (σ.app d e).ob = (σ.lays e.upd).ob := by
  unfold St.app
  rw [St.ob_put]
theorem lays_det : ∀ (us : List (Nat × Nat × Option AObj)) (σ σ1 : St) (q : Nat), σ.ob q = σ1.ob q ∨ q ∈ us.map (·.1) → (σ.lays us).ob q = (σ1.lays us).ob q
  | [], σ, σ1, q, h => by
    rcases h with h | h
    · exact h
    · simp at h
  | u :: us, σ, σ1, q, h => by
    have e1 : ∀ σ : St, σ.lays (u :: us) = (σ.lays [u]).lays us := fun _ => rfl
    rw [e1, e1]
    refine lays_det us _ _ q ?_
    have e2 := ob_lays1 σ u.1 u.2 q
    have e3 := ob_lays1 σ1 u.1 u.2 q
    by_cases hq : u.1 = q
    · left
      rw [show (σ.lays [u]).ob q = _ from e2, show (σ1.lays [u]).ob q = _ from e3, if_pos hq, if_pos hq]
    · rcases h with h | h
      · left
        rw [show (σ.lays [u]).ob q = _ from e2, show (σ1.lays [u]).ob q = _ from e3, if_neg hq, if_neg hq, h]
      · simp only [List.map_cons, List.mem_cons] at h
        rcases h with h | h
        · exact absurd h.symm hq
        · exact .inr h
def Inv {β : Type} (n : Nat) (Gs : Nat → Nat → β) (wr : Nat → Nat → Prop) (f : Nat → Bool) (T : Nat → β) : Prop :=
  ∀ t m, m ≤ n → (∀ j, j < n → f j = true → m ≤ j → ¬ wr j t) → (∀ j, j < m → wr j t → f j = true) → T t = Gs m t
theorem Inv.step {β : Type} {n : Nat} {Gs : Nat → Nat → β} {wr : Nat → Nat → Prop} {f : Nat → Bool} {T T' : Nat → β} (h : Inv n Gs wr f T) {i : Nat} (hi : i < n) (hstay : ∀ j t, j < n → ¬ wr j t → Gs (j + 1) t = Gs j t)
    (hw : ∀ t, wr i t → T' t = Gs (i + 1) t) (hn : ∀ t, ¬ wr i t → T' t = T t) (hord : ∀ j t, i < j → j < n → wr i t → wr j t → f j = true → False) : Inv n Gs wr (fun j => f j || j == i) T' := by
  intro t m hm h1 h2
  by_cases hit : wr i t
  · have him : i < m := by
      rcases Nat.lt_or_ge i m with h | h
      · exact h
      · exact absurd hit (h1 i hi (by simp) h)
    have stay : ∀ d, i + 1 + d ≤ m → Gs (i + 1 + d) t = Gs (i + 1) t := by
      intro d
      induction d with
      | zero => intro _; rfl
      | succ d ih =>
        intro hd
        rw [← ih (by omega)]
        refine hstay (i + 1 + d) t (by omega) fun hwr => ?_
        have := h2 (i + 1 + d) (by omega) hwr
        simp only [Bool.or_eq_true, beq_iff_eq] at this
        rcases this with h | h
        · exact hord _ t (by omega) (by omega) hit hwr h
        · omega
    have := stay (m - (i + 1)) (by omega)
    rw [show i + 1 + (m - (i + 1)) = m by omega] at this
    rw [this]
    exact hw t hit
  · rw [hn t hit]
    refine h t m hm (fun j hj hf hmj => h1 j hj (by simp [hf]) hmj) fun j hj hwr => ?_
    have := h2 j hj hwr
    simp only [Bool.or_eq_true, beq_iff_eq] at this
    rcases this with h | h
    · exact h
    · subst h; exact absurd hwr hit
def cnt (f : Nat → Bool) : Nat → Nat
  | 0 => 0
  | k + 1 => cnt f k + (if f k = true then 0 else 1)
theorem cnt_same {f g : Nat → Bool} : ∀ {k : Nat}, (∀ j, j < k → f j = g j) → cnt f k = cnt g k
  | 0, _ => rfl
  | k + 1, h => by rw [cnt, cnt, cnt_same fun j hj => h j (by omega), h k (by omega)]
theorem cnt_set {f : Nat → Bool} {i : Nat} (hf : f i = false) : ∀ {k : Nat}, i < k → cnt (fun j => f j || j == i) k + 1 = cnt f k
  | 0, h => by omega
  | k + 1, h => by
    rw [cnt, cnt]
    by_cases e : k = i
    · subst e
      rw [cnt_same (f := fun j => f j || j == k) (g := f) fun j hj => by simp; omega]
      simp [hf]
    · have ih := cnt_set hf (k := k) (by omega)
      have : (f k || k == i) = f k := by simp [e]
      rw [this]
      omega
theorem cnt_zero {f : Nat → Bool} : ∀ {k : Nat}, cnt f k = 0 → ∀ j, j < k → f j = true
  | 0, _, j, hj => by omega
  | k + 1, h, j, hj => by
    rw [cnt] at h
    by_cases e : j = k
    · subst e
      by_cases q : f j = true
      · exact q
      · rw [if_neg q] at h; omega
    · exact cnt_zero (k := k) (by omega) j (by omega)
end Go.E2
namespace Go.E2
open Go.RowKit
set_option linter.unusedVariables false
set_option linter.unusedSimpArgs false
variable {ob : Obs} {c c' : Con} {w w' w0 : World} {S0 : Own} {G0 G : Gh} {σ σ' σ1 : St} {a a' : Act} {P : Program}
theorem getD_set {l : Array Bool} {i j : Nat} (hi : i < l.size) : (l.setIfInBounds i true).getD j true = (l.getD j true || j == i) := by
  rw [Array.getD_eq_getD_getElem?, Array.getD_eq_getD_getElem?, Array.getElem?_setIfInBounds]
  by_cases e : i = j
  · subst e
    simp [hi]
  · rw [if_neg e]
    have : (j == i) = false := by simpa using fun h => e h.symm
    simp [this]
theorem getD_two {l : Array Bool} {i : Nat} (h : i < l.size) : l.getD i false = l.getD i true := by
  rw [Array.getD_eq_getD_getElem?, Array.getD_eq_getD_getElem?, Array.getElem?_eq_getElem h]
  rfl
theorem mem_ready {ops : Array Oper} {l : Array Bool} {i : Nat} : i ∈ Region.ready .any ops l ↔ i < ops.size ∧ l.getD i true = false ∧ ∀ e ∈ edgesOf ops i, l.getD e false = true := by
  unfold Region.ready
  rw [List.mem_filter, List.mem_range]
  constructor
  · rintro ⟨h1, h2⟩
    refine ⟨h1, by simpa using (Bool.and_eq_true_iff.1 h2).1, fun e he => ?_⟩
    have h3 := (Bool.and_eq_true_iff.1 h2).2
    unfold edgesOf at he
    rw [Array.getElem?_eq_getElem h1] at h3 he
    simp only [Option.map_some, Option.getD_some] at h3
    simp only [List.mem_map, List.mem_filter, Array.mem_toList_iff] at he
    obtain ⟨x, ⟨hx, hb⟩, rfl⟩ := he
    have := Array.all_eq_true_iff_forall_mem.1 h3 x hx
    simpa [hb] using this
  · rintro ⟨h1, h2, h3⟩
    refine ⟨h1, ?_⟩
    rw [Bool.and_eq_true]
    refine ⟨by simp [h2], ?_⟩
    rw [Array.getElem?_eq_getElem h1]
    simp only [Option.map_some, Option.getD_some]
    rw [Array.all_eq_true_iff_forall_mem]
    intro x hx
    cases hb : Region.binds .any x with
    | false => rfl
    | true =>
      have := h3 x.on (by
        unfold edgesOf
        rw [Array.getElem?_eq_getElem h1]
        simp only [List.mem_map, List.mem_filter, Array.mem_toList_iff]
        exact ⟨x, ⟨hx, hb⟩, rfl⟩)
      simp [this]
structure Left (ops : Array Oper) (fs : List Foot) (A : List (List Nat)) (S : Nat → St) (l : Array Bool) (τ : St) : Prop where
  size : l.size = ops.size
  len : τ.slots.length = (S 0).slots.length
  slots : Inv ops.size (fun m t => (S m).slot t) (fun i t => wrS ops i t = true) (fun j => l.getD j true) τ.slot
  obs : Inv ops.size (fun m q => (S m).ob q) (fun i q => q ∈ (footOf fs i).lays) (fun j => l.getD j true) τ.ob
  dc : ∀ j, j < ops.size → l.getD j true = true → ∀ x ∈ A.getD j [], l.getD x true = true
def Steps (E : Env) (H : Hand) (ops : Array Oper) (fs : List Foot) (S : Nat → St) : Prop := ∀ (i : Nat) (o : Oper), ops[i]? = some o →
  ∃ e, (absG E H ops o).val (S i) = some e ∧ S (i + 1) = (S i).app o.dst e ∧ (absG E H ops o).sees (S i) = ((footOf fs i).slots, (footOf fs i).objs) ∧ e.upd.map (·.1) = (footOf fs i).lays
theorem clash_sym {ops : Array Oper} {fs : List Foot} {j i t : Nat} (h : wrS ops j t = true) (h2 : t ∈ (footOf fs i).slots ∨ wrS ops i t = true) : clash ops fs j i = true := by
  unfold wrS at h
  have hd : (ops[j]?).bind (·.dst) = some t := by simpa using h
  unfold clash
  rw [hd]
  rcases h2 with h2 | h2 <;> simp [h2]
theorem clash_read {ops : Array Oper} {fs : List Foot} {j i t : Nat} (h : wrS ops i t = true) (h2 : t ∈ (footOf fs j).slots) : clash ops fs j i = true := by
  unfold wrS at h
  have hd : (ops[i]?).bind (·.dst) = some t := by simpa using h
  unfold clash
  rw [hd]
  simp [h2]
theorem clash_lay {ops : Array Oper} {fs : List Foot} {j i q : Nat} (h : q ∈ (footOf fs j).lays) (h2 : q ∈ (footOf fs i).objs ∨ q ∈ (footOf fs i).lays) : clash ops fs j i = true := by
  have : (footOf fs j).lays.any (fun q => (footOf fs i).objs.contains q || (footOf fs i).lays.contains q) = true := List.any_eq_true.2 ⟨q, h, by rcases h2 with h2 | h2 <;> simp [h2]⟩
  unfold clash
  rw [this]
  simp
theorem clash_see {ops : Array Oper} {fs : List Foot} {j i q : Nat} (h : q ∈ (footOf fs i).lays) (h2 : q ∈ (footOf fs j).objs) : clash ops fs j i = true := by
  have : (footOf fs i).lays.any (fun q => (footOf fs j).objs.contains q) = true := List.any_eq_true.2 ⟨q, h, by simp [h2]⟩
  unfold clash
  rw [this]
  simp
section
variable {E : Env} {H : Hand} {ops : Array Oper} {fs : List Foot} {A : List (List Nat)} {S : Nat → St} {l : Array Bool} {τ : St}
theorem Left.ready (hok : okWith ops fs A = true) (h : Left ops fs A S l τ) {i : Nat} (hi : i ∈ Region.ready .any ops l) : (∀ x ∈ A.getD i [], l.getD x true = true) ∧ ∀ j, i < j → j < ops.size → clash ops fs i j = true → l.getD j true = true → False := by
  obtain ⟨h1, h2, h3⟩ := mem_ready.1 hi
  obtain ⟨k1, k2, k3⟩ := okWith_spec hok h1
  have he : ∀ e ∈ edgesOf ops i, l.getD e true = true := fun e he => by
    rw [← getD_two (by rw [h.size]; have := k1 e he; omega)]
    exact h3 e he
  refine ⟨fun x hx => ?_, fun j hj hjn hc hl => ?_⟩
  · obtain ⟨e, h4, h5⟩ := k2 x hx
    rcases h5 with rfl | h5
    · exact he _ h4
    · exact h.dc e (by have := k1 e h4; omega) (he e h4) x h5
  · have h4 := (okWith_spec hok hjn).2.2 i hj hc
    have := h.dc j hjn hl i h4
    rw [h2] at this
    cases this
theorem Left.seen (hok : okWith ops fs A = true) (h : Left ops fs A S l τ) {i : Nat} (hi : i ∈ Region.ready .any ops l) : (∀ t ∈ (footOf fs i).slots, τ.slot t = (S i).slot t) ∧ ∀ q ∈ (footOf fs i).objs, τ.ob q = (S i).ob q := by
  obtain ⟨h1, h2, _⟩ := mem_ready.1 hi
  obtain ⟨r1, r2⟩ := h.ready hok hi
  obtain ⟨_, _, k3⟩ := okWith_spec hok h1
  refine ⟨fun t ht => h.slots t i (by omega) (fun j hj hl hij hw => ?_) fun j hj hw => r1 j (k3 j hj (clash_sym hw (.inl ht))), fun q hq => h.obs q i (by omega) (fun j hj hl hij hw => ?_) fun j hj hw => r1 j (k3 j hj (clash_lay hw (.inl hq)))⟩
  · have hne : i < j := by
      rcases Nat.lt_or_ge i j with h | h
      · exact h
      · obtain rfl : i = j := by omega
        have hl : l.getD i true = true := hl
        rw [h2] at hl
        cases hl
    exact r2 j hne hj (clash_read hw ht) hl
  · have hne : i < j := by
      rcases Nat.lt_or_ge i j with h | h
      · exact h
      · obtain rfl : i = j := by omega
        have hl : l.getD i true = true := hl
        rw [h2] at hl
        cases hl
    exact r2 j hne hj (clash_see hw hq) hl
theorem steps_len (hS : Steps E H ops fs S) : ∀ i, i ≤ ops.size → (S i).slots.length = (S 0).slots.length
  | 0, _ => rfl
  | i + 1, h => by
    obtain ⟨e, _, h3, _⟩ := hS i _ (Array.getElem?_eq_getElem (show i < ops.size by omega))
    rw [h3, St.len_app, steps_len hS i (by omega)]
theorem Left.step (hok : okWith ops fs A = true) (hS : Steps E H ops fs S) (h : Left ops fs A S l τ) {i : Nat} (hi : i ∈ Region.ready .any ops l) {o : Oper} {e : Eff} (ho : ops[i]? = some o) (he : S (i + 1) = (S i).app o.dst e) (hu : e.upd.map (·.1) = (footOf fs i).lays) :
    Left ops fs A S (l.setIfInBounds i true) (τ.app o.dst e) := by
  obtain ⟨h1, h2, _⟩ := mem_ready.1 hi
  obtain ⟨r1, r2⟩ := h.ready hok hi
  have hil : i < l.size := by rw [h.size]; exact h1
  have hf : (fun j => (l.setIfInBounds i true).getD j true) = fun j => l.getD j true || j == i := funext fun j => getD_set hil
  have hwr : ∀ t, wrS ops i t = true ↔ o.dst = some t := fun t => by unfold wrS; rw [ho]; simp
  have stS : ∀ j t, j < ops.size → ¬ wrS ops j t = true → (S (j + 1)).slot t = (S j).slot t := fun j t hj hn => by
    obtain ⟨e', _, h5, _⟩ := hS j _ (Array.getElem?_eq_getElem hj)
    rw [h5]
    refine slot_app_ne fun hd => hn ?_
    unfold wrS
    rw [Array.getElem?_eq_getElem hj]
    simp [hd]
  have stO : ∀ j q, j < ops.size → ¬ q ∈ (footOf fs j).lays → (S (j + 1)).ob q = (S j).ob q := fun j q hj hn => by
    obtain ⟨e', _, h5, _, h6⟩ := hS j _ (Array.getElem?_eq_getElem hj)
    rw [h5, ob_app]
    rcases ob_lays e'.upd (S j) q with ⟨u, u1, u2, _⟩ | ⟨_, h7⟩
    · exact absurd (by rw [← h6]; exact List.mem_map.2 ⟨u, u1, u2⟩) hn
    · exact h7
  refine ⟨by rw [Array.size_setIfInBounds, h.size], by rw [St.len_app, h.len], ?_, ?_, ?_⟩
  · rw [hf]
    refine h.slots.step h1 stS (fun t ht => ?_) (fun t ht => slot_app_ne fun hd => ht ((hwr t).2 hd)) fun j t hj hjn hw hw2 hl => r2 j hj hjn (clash_sym hw (.inr hw2)) hl
    show (τ.app o.dst e).slot t = (S (i + 1)).slot t
    rw [he, (hwr t).1 ht]
    exact slot_app_eq (by rw [h.len, steps_len hS i (by omega)])
  · rw [hf]
    refine h.obs.step h1 stO (fun q hq => ?_) (fun q hq => ?_) fun j q hj hjn hw hw2 hl => r2 j hj hjn (clash_lay hw (.inr hw2)) hl
    · show (τ.app o.dst e).ob q = (S (i + 1)).ob q
      rw [he, ob_app, ob_app]
      exact lays_det _ _ _ _ (.inr (by rw [hu]; exact hq))
    · rw [ob_app]
      rcases ob_lays e.upd τ q with ⟨u, u1, u2, _⟩ | ⟨_, h7⟩
      · exact absurd (by rw [← hu]; exact List.mem_map.2 ⟨u, u1, u2⟩) hq
      · exact h7
  · intro j hj hl x hx
    have hx' : l.getD x true = true := by
      rw [getD_set hil] at hl
      simp only [Bool.or_eq_true, beq_iff_eq] at hl
      rcases hl with hl | rfl
      · exact h.dc j hj hl x hx
      · exact r1 x hx
    rw [getD_set hil, hx']
    rfl
theorem Left.full (hok : okWith ops fs A = true) (h : Left ops fs A S l τ) (hr : Region.ready .any ops l = []) : ∀ i, i < ops.size → l.getD i true = true := by
  intro i
  induction i using Nat.strongRecOn with
  | ind i ih =>
    intro hi
    cases hl : l.getD i true with
    | true => rfl
    | false =>
      have : i ∈ Region.ready .any ops l := mem_ready.2 ⟨hi, hl, fun e he => by
        have := (okWith_spec hok hi).1 e he
        rw [getD_two (by rw [h.size]; omega)]
        exact ih e this (by omega)⟩
      rw [hr] at this
      cases this
theorem Left.end (hok : okWith ops fs A = true) (hS : Steps E H ops fs S) (h : Left ops fs A S l τ) (hl : ∀ i, i < ops.size → l.getD i true = true) (hR : Rel w0 S0 G0 τ c a w) : Rel w0 S0 G0 (S ops.size) c a w := by
  refine hR.congr ?_ fun q => (h.obs q ops.size (Nat.le_refl _) (fun j hj _ hij => by omega) fun j hj _ => hl j hj).symm
  have e := steps_len hS ops.size (Nat.le_refl _)
  apply List.ext_getElem?
  intro t
  have hs := h.slots t ops.size (Nat.le_refl _) (fun j hj _ hij => by omega) fun j hj _ => hl j hj
  have hs : τ.slot t = (S ops.size).slot t := hs
  unfold St.slot at hs
  rw [List.getD_eq_getElem?_getD, List.getD_eq_getElem?_getD] at hs
  by_cases ht : t < (S ops.size).slots.length
  · have ht2 : t < τ.slots.length := by rw [h.len, ← e]; exact ht
    rw [List.getElem?_eq_getElem ht, List.getElem?_eq_getElem ht2] at hs ⊢
    simp only [Option.getD_some] at hs
    rw [hs]
  · rw [List.getElem?_eq_none (by omega), List.getElem?_eq_none (by rw [h.len, ← e]; omega)]
theorem Left.wp (hE : EnvOk P E) (hH : HandOk P H) (hok : okWith ops fs A = true) (hS : Steps E H ops fs S) : ∀ (n : Nat) {l : Array Bool} {τ : St} {c : Con} {a : Act} {w : World}, cnt (fun j => l.getD j true) ops.size ≤ n → Left ops fs A S l τ → Rel w0 S0 G0 τ c a w →
    wpAny P .any ops (fun e' a' w' => e' = .normal ∧ ∃ c', Rel w0 S0 G0 (S ops.size) c' a' w') n l a w
  | 0, l, τ, c, a, w, hn, h, hR => by
    have hl : ∀ i, i < ops.size → l.getD i true = true := cnt_zero (by omega)
    refine ⟨?_, rfl, c, h.end hok hS hl hR⟩
    apply List.eq_nil_iff_forall_not_mem.2
    intro i hi
    obtain ⟨h1, h2, _⟩ := mem_ready.1 hi
    rw [hl i h1] at h2
    cases h2
  | n + 1, l, τ, c, a, w, hn, h, hR => by
    refine ⟨fun hr => ⟨rfl, c, h.end hok hS (h.full hok hr) hR⟩, fun i hi => ?_⟩
    obtain ⟨h1, h2, h3⟩ := mem_ready.1 hi
    have ho := Array.getElem?_eq_getElem h1
    obtain ⟨e, k1, k3, k4, k5⟩ := hS i _ ho
    obtain ⟨s1, s2⟩ := h.seen hok hi
    have hval : (absG E H ops ops[i]).val τ = some e := by
      rw [RM.agree (σ := S i) _ (by rw [k4]; exact s1) (by rw [k4]; exact s2)]
      exact k1
    have hL := h.step hok hS hi ho k3 k5
    have hcnt : cnt (fun j => (l.setIfInBounds i true).getD j true) ops.size ≤ n := by
      have hf : (fun j => (l.setIfInBounds i true).getD j true) = fun j => l.getD j true || j == i := funext fun j => getD_set (by rw [h.size]; exact h1)
      have := cnt_set (f := fun j => l.getD j true) (i := i) h2 h1
      rw [hf]
      omega
    have hg := done_g (P := P) hE hH hval hR (K := wpAny P .any ops (fun e' a' w' => e' = .normal ∧ ∃ c', Rel w0 S0 G0 (S ops.size) c' a' w') n (l.setIfInBounds i true))
      (Q := fun e' a' w' => e' = .normal ∧ ∃ c', Rel w0 S0 G0 (S ops.size) c' a' w') fun c' a' w' hR' _ => Left.wp hE hH hok hS n hcnt hL hR'
    unfold wpOp
    rw [ho]
    dsimp only
    split
    · rename_i hw
      rw [if_pos hw] at hg
      exact .inl hg
    · rename_i hw
      rw [if_neg hw] at hg
      exact hg
end
theorem RD.snd {E : Env} {H : Hand} (hE : EnvOk P E) (hH : HandOk P H) {id : Nat} {ops : Array Oper} {fs : List Foot} (h : RD E H ops ops.toList σ σ' fs) (hok : okWith ops fs (ancs ops) = true) : Snd P w0 S0 G0 (.region id ops true) σ .normal σ' := by
  obtain ⟨S, e0, en, hS⟩ := h.states
  have hS' : Steps E H ops fs S := fun i o ho => by
    obtain ⟨e, f, h1, h2, h4, h5, h6⟩ := hS i o (by rw [Array.getElem?_toList]; exact ho)
    have hf : footOf fs i = f := by unfold footOf; rw [List.getD_eq_getElem?_getD, h1]; rfl
    exact ⟨e, h2, h4, by rw [hf]; exact h5, by rw [hf]; exact h6⟩
  have en' : S ops.size = σ' := by rw [← en, Array.length_toList]
  intro c a w hR
  refine wp_region_any hE.mixed ?_
  have hl : ∀ j, j < ops.size → (Array.replicate ops.size false).getD j true = false := fun j hj => by
    rw [Array.getD_eq_getD_getElem?, Array.getElem?_replicate, if_pos hj]; rfl
  have hL : Left ops fs (ancs ops) S (Array.replicate ops.size false) σ := by
    refine ⟨by simp, by rw [e0], fun t m hm h1 h2 => ?_, fun q m hm h1 h2 => ?_, fun j hj h => ?_⟩
    · have stay : ∀ d, d ≤ m → (S d).slot t = (S 0).slot t := by
        intro d
        induction d with
        | zero => intro _; rfl
        | succ d ih =>
          intro hd
          rw [← ih (by omega)]
          obtain ⟨e', _, h5, _⟩ := hS' d _ (Array.getElem?_eq_getElem (show d < ops.size by omega))
          rw [h5]
          refine slot_app_ne fun hdst => ?_
          have hwd : wrS ops d t = true := by unfold wrS; rw [Array.getElem?_eq_getElem (show d < ops.size by omega)]; simp [hdst]
          have : (Array.replicate ops.size false).getD d true = true := h2 d (by omega) hwd
          rw [hl d (by omega)] at this
          cases this
      show σ.slot t = (S m).slot t
      rw [stay m (Nat.le_refl _), e0]
    · have stay : ∀ d, d ≤ m → (S d).ob q = (S 0).ob q := by
        intro d
        induction d with
        | zero => intro _; rfl
        | succ d ih =>
          intro hd
          rw [← ih (by omega)]
          obtain ⟨e', _, h5, _, h6⟩ := hS' d _ (Array.getElem?_eq_getElem (show d < ops.size by omega))
          rw [h5, ob_app]
          rcases ob_lays e'.upd (S d) q with ⟨u, u1, u2, _⟩ | ⟨_, h7⟩
          · have hwd : q ∈ (footOf fs d).lays := by rw [← h6]; exact List.mem_map.2 ⟨u, u1, u2⟩
            have : (Array.replicate ops.size false).getD d true = true := h2 d (by omega) hwd
            rw [hl d (by omega)] at this
            cases this
          · exact h7
      show σ.ob q = (S m).ob q
      rw [stay m (Nat.le_refl _), e0]
    · rw [hl j hj] at h
      cases h
  have hcnt : ∀ (f : Nat → Bool) k, cnt f k ≤ k := fun f k => by
    induction k with
    | zero => exact Nat.le_refl _
    | succ k ih => rw [cnt]; split <;> omega
  have := Left.wp (w0 := w0) (S0 := S0) (G0 := G0) hE hH hok hS' ops.size (hcnt _ _) hL (hR.drew (w.drawn + 1) (Nat.le_succ _))
  rw [en'] at this
  exact this
end Go.E2
