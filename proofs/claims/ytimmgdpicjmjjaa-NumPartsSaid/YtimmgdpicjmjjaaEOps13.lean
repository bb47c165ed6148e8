/- The engine, part 7g: operations that look at no memory, in regions that draw their order. -/
import Derived.Test.YtimmgdpicjmjjaaECode
namespace Go.Eng
open Go.RowKit
set_option linter.unusedVariables false
set_option linter.unusedSimpArgs false
variable {ob : Obs} {c c' : Con} {w w' w0 : World} {S0 : Nat → Prop} {G0 G : Gh} {σ σ' σ1 : St} {a a' : Act} {P : Program}
/-- Done, whatever the world is. -/
def DoneY (P : Program) (w0 : World) (S0 : Nat → Prop) (G0 : Gh) (σ : St) (o : Oper) (e : Eff) : Prop :=
  ∀ c a w, Rel w0 S0 G0 σ c a w → ∃ v, (∀ w', (execOp a.eval o).run P w' = .ok (.value v) w') ∧ ∃ c', Rel w0 S0 G0 (σ.app o.dst e) c' (a.put o.dst v) w
theorem DoneY.pure {o : Oper} {x : AV} (h : ∀ c a w, Rel w0 S0 G0 σ c a w → ∃ v, (∀ w', (execOp a.eval o).run P w' = .ok (.value v) w') ∧ RepAV σ.ob c x v) : DoneY P w0 S0 G0 σ o ⟨x, []⟩ := by
  intro c a w hr
  obtain ⟨v, h1, h2⟩ := h c a w hr
  exact ⟨v, h1, c, hr.setSlot o.dst x v h2⟩
theorem doneY_move {o : Oper} {x : Operand} {e : Eff} (ho : o.op = .move x ∨ o.op = .assign x) (h : (absMove x).val σ = some e) : DoneY P w0 S0 G0 σ o e := by
  replace h := val_opnd h
  simp only [RM.val, Option.some.injEq] at h
  subst h
  refine DoneY.pure fun c a w hr => ⟨a.eval x, fun w => ?_, hr.opnd x⟩
  rcases ho with ho | ho <;> simp [execOp, ho]
theorem doneY_min {o : Oper} {cl : Call} {x y : Operand} {e : Eff} (ho : o.op = .call cl) (hc : cl.callee = .builtin .min) (ha : cl.args = #[x, y]) (h : (absMin false x y).val σ = some e)   : DoneY P w0 S0 G0 σ o e := by
  replace h := val_opnd h
  replace h := val_opnd h
  generalize hu : absO σ x = u at h
  generalize hv : absO σ y = v at h
  split at h
  case h_2 => simp [RM.val] at h
  case h_1 k n k2 m =>
    simp only [RM.val, Option.some.injEq] at h
    subst h
    refine DoneY.pure fun c a w hR => ⟨.int k (if m < n then m else n), fun w => ?_, Rep.int _ _⟩
    have hx := hR.opnd x
    have hy := hR.opnd y
    rw [hu] at hx
    rw [hv] at hy
    have hx := rep_int hx
    have hy := rep_int hy
    simp [execOp, ho, resolve, hc, ha, invoke, builtin, Builtin.min_, hx, hy, Builtin.min2]
theorem doneY_extract {o : Oper} {x : Operand} {i : Nat} {e : Eff} (ho : o.op = .extract x i) (h : (absExtract x i).val σ = some e)   : DoneY P w0 S0 G0 σ o e := by
  replace h := val_opnd h
  generalize hu : absO σ x = u at h
  split at h
  case h_2 => simp [RM.val] at h
  case h_1 l =>
    split at h
    case h_2 => simp [RM.val] at h
    case h_1 y hy =>
      simp only [RM.val, Option.some.injEq] at h
      subst h
      refine DoneY.pure fun c a w hR => ?_
      have hx := hR.opnd x
      rw [hu] at hx
      obtain ⟨vs, e1, hl, hr⟩ := hx
      have hi := (List.getElem?_eq_some_iff.1 hy).1
      have hget : vs[i]? = some (vs.getD i undef) := get_of_getD (by omega)
      have hrep := hr i y hy
      generalize vs.getD i undef = z at hget hrep
      exact ⟨z, fun w => by simp [execOp, ho, e1, Instr.extract, hget], hrep⟩
theorem doneY_len {o : Oper} {tab : Nat → Option Ty} {cl : Call} {t : Nat} {x : Operand} {e : Eff} (htab : ∀ t ty, tab t = some ty → TyOk P t ty) (ho : o.op = .call cl) (hc : cl.callee = .builtin .len) (ha : cl.args = #[x]) (ht : cl.argTypes = #[t])
    (h : (absLen tab t x).val σ = some e)   : DoneY P w0 S0 G0 σ o e := by
  replace h := val_opnd h
  cases hty : tab t with
  | none => rw [hty] at h; simp [RM.val] at h
  | some ty =>
    rw [hty] at h
    have hT := htab t ty hty
    have hx := fun c a w (hR : Rel w0 S0 G0 σ c a w) => hR.opnd x
    generalize absO σ x = u at h hx
    dsimp only at h
    split at h
    case isTrue hs =>
      split at h
      case h_2 => simp [RM.val] at h
      case h_1 s =>
        simp only [RM.val, Option.some.injEq] at h
        subst h
        refine DoneY.pure fun c a w1 hR => ⟨.int .i64 s.size, fun w => ?_, Rep.int _ _⟩
        have e1 := rep_str (hx c a w1 hR)
        simp [execOp, ho, resolve, hc, ha, ht, invoke, builtin, Builtin.len_, run_underlying (hT.str hs), e1, goInt]
    case isFalse hs =>
      split at h
      case isTrue => simp [RM.val] at h
      case isFalse he =>
        have R : ∀ (a : Act) (w : World) (A : Option Addr) (n cap : Nat), a.eval x = .slice A n cap → (execOp a.eval o).run P w = .ok (.value (.int .i64 n)) w := fun a w A n cap e1 => by
          simp [execOp, ho, resolve, hc, ha, ht, invoke, builtin, Builtin.len_, run_underlying (hT.slice he), e1, goInt]
        split at h
        case h_1 e1 xs =>
          simp only [RM.val, Option.some.injEq] at h
          subst h
          refine DoneY.pure fun c a w1 hR => ⟨.int .i64 xs.length, fun w => ?_, Rep.int _ _⟩
          obtain ⟨A, cap, e1⟩ := rep_list_val (hx c a w1 hR)
          exact R a w A _ cap e1
        case h_2 =>
          simp only [RM.val, Option.some.injEq] at h
          subst h
          refine DoneY.pure fun c a w hR => ⟨.int .i64 (0 : Nat), fun w' => R a w' none 0 0 (hx c a w hR), Rep.int _ _⟩
        case h_3 k g =>
          simp only [RM.val] at h
          split at h
          case h_2 => simp [RM.val] at h
          case h_1 n hn =>
            simp only [RM.val, Option.some.injEq] at h
            subst h
            refine DoneY.pure fun c a w1 hR => ⟨.int .i64 n, fun w => ?_, Rep.int _ _⟩
            obtain ⟨A, cap, e1⟩ := hR.row_slice hn
            exact R a w A _ cap ((((hx c a w1 hR).2 n hn)).trans e1)
        case h_4 => simp [RM.val] at h
theorem doneY_slice {o : Oper} {tab : Nat → Option Ty} {t : Nat} {x : Operand} {lo hi : Option Operand} {e : Eff} (htab : ∀ t ty, tab t = some ty → TyOk P t ty) (ho : o.op = .slice t x lo hi none) (h : (absSlice tab t x lo hi).val σ = some e)   : DoneY P w0 S0 G0 σ o e := by
  replace h := val_opnd h
  have hx := fun c a w (hR : Rel w0 S0 G0 σ c a w) => hR.opnd x
  generalize absO σ x = u at h hx
  obtain ⟨l, h2, hl⟩ := val_opndInt h
  replace h := h2
  clear h2
  obtain ⟨hh, h2, hh2⟩ := val_opndInt h
  replace h := h2
  clear h2
  cases hty : tab t with
  | none => rw [hty] at h; simp [RM.val] at h
  | some ty =>
    rw [hty] at h
    have hT := htab t ty hty
    dsimp only at h
    split at h
    case isTrue hs =>
      split at h
      case h_2 => simp [RM.val] at h
      case h_1 s =>
        split at h
        case isFalse => simp [RM.val] at h
        case isTrue hc =>
          simp only [RM.val, Option.some.injEq] at h
          subst h
          refine DoneY.pure fun c a w0' hR => ⟨.string (s.extract (l.getD 0).toNat (hh.getD s.size).toNat), fun w => ?_, Rep.str _⟩
          have hv := rep_str (hx c a w0' hR)
          have hb := run_bounds (P := P) false s.size s.size (Nat.le_refl _) a w (hl _ _ _ c a w0' hR) (hh2 _ _ _ c a w0' hR) hc.1 hc.2.1 hc.2.2
          simp [execOp, ho, Instr.sliceAt, run_underlying (hT.str hs), Instr.slice, hv, hb]
    case isFalse hs =>
      split at h
      case isTrue => simp [RM.val] at h
      case isFalse he =>
        cases hety : tab ty.elem with
        | none => rw [hety] at h; simp [RM.val] at h
        | some ety =>
          rw [hety] at h
          have hE := htab _ ety hety
          dsimp only at h
          split at h
          case h_2 => simp [RM.val] at h
          case h_1 y =>
            obtain ⟨p, us, h2, H⟩ := val_atPV h
            replace h := h2
            clear h2
            split at h
            case h_2 => simp [RM.val] at h
            case h_1 e1 xs =>
              split at h
              case isFalse => simp [RM.val] at h
              case isTrue hc =>
                obtain ⟨hc0, hc1, hc2, hc3⟩ := hc
                simp only [RM.val, Option.some.injEq] at h
                subst h
                intro c a w hR
                obtain ⟨hF, HR⟩ := H σ (Frz.refl σ)
                obtain ⟨c', hR', hG, e1', e2', hv⟩ := HR w0 S0 G0 c a w hR
                have hrep := hv _ (hx c a w hR)
                obtain ⟨i, z, hinf, hsz, _⟩ := hE.info
                obtain ⟨A, cap, hA⟩ := rep_list_val hrep
                have hcap : xs.length ≤ cap ∨ xs = [] := by
                  rw [hA] at hrep
                  generalize hq : Value.slice A xs.length cap = q at hrep
                  cases hrep with
                  | nil _ A' cap' => right; rfl
                  | list _ _ g o cap' f hc hw hg hr => cases hq; left; exact hc
                have hcap : xs.length ≤ cap := by
                  rcases hcap with h | h
                  · exact h
                  · rw [h]; exact Nat.zero_le _
                have hb := fun w' => run_bounds (P := P) true xs.length cap hcap a w' (hl _ _ _ c a w hR) (hh2 _ _ _ c a w hR) hc1 hc2 hc3
                rw [hA] at hrep
                have hsub := rep_sub (esz := ety.size) hrep (l := (l.getD 0).toNat) (h' := (hh.getD (xs.length : Int)).toNat) (by omega) (by omega) hc0
                refine ⟨.slice (if cap = (l.getD 0).toNat then A else A.map (·.add ((l.getD 0).toNat * ety.size))) ((hh.getD (xs.length : Int)).toNat - (l.getD 0).toNat) (cap - (l.getD 0).toNat), fun w' => ?_, c', ?_⟩
                · simp [execOp, ho, Instr.sliceAt, run_underlying (hT.slice he), Instr.slice, hA, hb w', sizeOf, typeInfo, hinf, hsz]
                · exact hR'.setSlot o.dst _ _ hsub
def absY (E : Env) (o : Oper) : RM Eff := match o.guard with
  | some _ => .fail
  | none => match o.op with
    | .move x => absMove x
    | .assign x => absMove x
    | .slice t x lo hi none => absSlice E.tab t x lo hi
    | .extract x i => absExtract x i
    | .call cl => match cl.callee with
      | .builtin .len => match cl.args.toList, cl.argTypes.toList with
        | [x], [t] => absLen E.tab t x
        | _, _ => .fail
      | .builtin .min => match cl.args.toList with
        | [x, y] => absMin false x y
        | _ => .fail
      | _ => .fail
    | _ => .fail
theorem doneY_op {E : Env} (hE : EnvOk P E) {o : Oper} {e : Eff} (h : (absY E o).val σ = some e) : o.guard = none ∧ DoneY P w0 S0 G0 σ o e := by
  unfold absY at h
  split at h
  case h_1 => simp [RM.val] at h
  case h_2 hg =>
    refine ⟨hg, ?_⟩
    split at h
    case h_1 x ho => exact doneY_move (.inl ho) h
    case h_2 x ho => exact doneY_move (.inr ho) h
    case h_3 t x lo hi ho => exact doneY_slice hE.tab ho h
    case h_4 x i ho => exact doneY_extract ho h
    case h_5 cl ho =>
      split at h
      case h_1 hc =>
        split at h
        case h_1 x t hx ht => exact doneY_len hE.tab ho hc (Array.toList_inj.1 (by simpa using hx)) (Array.toList_inj.1 (by simpa using ht)) h
        case h_2 => simp [RM.val] at h
      case h_2 hc =>
        split at h
        case h_1 x y hx => exact doneY_min ho hc (Array.toList_inj.1 (by simpa using hx)) h
        case h_2 => simp [RM.val] at h
      case h_3 => simp [RM.val] at h
    case h_6 => simp [RM.val] at h
/-- A region that draws its order, of operations that look at no memory: taken in one order. -/
inductive RY (E : Env) (ops : Array Oper) : Nat → Array Bool → St → St → Prop where
  | done {n l s} : Region.ready .any ops l = [] → RY E ops n l s s
  | take {n l s s1 s' o e} (i : Nat) : ops[i]? = some o → Region.free .any ops l i = true → (Region.ready .any ops l).contains i = true → (absY E o).val s = some e → s.app o.dst e = s1 → RY E ops n (l.setIfInBounds i true) s1 s' → RY E ops (n + 1) l s s'
theorem RY.wp {E : Env} (hE : EnvOk P E) {ops : Array Oper} (hs : Region.noSelect ops = true) {n : Nat} {l : Array Bool} (h : RY E ops n l σ σ') : ∀ {c : Con} {a : Act} {w : World}, Rel w0 S0 G0 σ c a w →
    wpAny P .any ops (fun e' a' w' => e' = .normal ∧ ∃ c', Rel w0 S0 G0 σ' c' a' w') n l a w := by
  induction h with
  | done hr => intro c a w hR; exact wpAny_done hr ⟨rfl, c, hR⟩ _
  | take i ho hf hr h1 h2 h3 ih =>
    intro c a w hR
    subst h2
    obtain ⟨hg, hd⟩ := doneY_op (P := P) (w0 := w0) (S0 := S0) (G0 := G0) hE h1
    obtain ⟨v, hv, c', hR'⟩ := hd c a w hR
    exact wpAny_take ho hs hf hr (fun _ _ _ h => by cases h.1) (.inl ⟨by simp [Region.wanted, hg], hv⟩) (ih hR')
theorem snd_drawn {E : Env} (hE : EnvOk P E) {id : Nat} {ops : Array Oper} (hs : Region.noSelect ops = true) (h : RY E ops ops.size (Array.replicate ops.size false) σ σ') : Snd P w0 S0 G0 (.region id ops true) σ .normal σ' :=
  fun c a w hR => wp_region_any hE.mixed (h.wp hE hs (hR.drew _))
end Go.Eng
