/- The engine, part 7e: conversions, bytes of texts, parts of texts and of rows, min and max, parts of tuples, equal bools. -/
import Derived.Test.YtimmgdpicjmjjaaEOps10
namespace Go.Eng
open Go.RowKit
set_option linter.unusedVariables false
set_option linter.unusedSimpArgs false
variable {ob : Obs} {c c' : Con} {w w' w0 : World} {S0 : Nat → Prop} {G0 G : Gh} {σ σ' σ1 : St} {a a' : Act} {P : Program}
def absConv (tab : Nat → Option Ty) (src dst : Nat) (x : Operand) : RM Eff := opnd x fun u => match tab src, tab dst with
  | some s, some d => match s.int, d.int with
    | some _, some k => match u with
      | .one (.at (.pv (.int k0 n))) => .ret ⟨.one (.at (.pv (.int k (k.wrap n)))), []⟩
      | _ => .fail
    | _, _ => .fail
  | _, _ => .fail
theorem done_conv {o : Oper} {tab : Nat → Option Ty} {src dst : Nat} {x : Operand} {e : Eff} (htab : ∀ t ty, tab t = some ty → TyOk P t ty) (ho : o.op = .convert src dst x) (h : (absConv tab src dst x).val σ = some e) : Done P w0 S0 G0 σ o e := by
  replace h := val_opnd h
  generalize hu : absO σ x = u at h
  split at h
  case h_2 => simp [RM.val] at h
  case h_1 s d hs hd =>
    split at h
    case h_2 => simp [RM.val] at h
    case h_1 k1 k hk1 hk =>
      split at h
      case h_2 => simp [RM.val] at h
      case h_1 k0 n =>
        simp only [RM.val, Option.some.injEq] at h
        subst h
        refine Done.pure fun c a w hR => ⟨.int k (k.wrap n), ?_, Rep.int _ _⟩
        have hx := hR.opnd x
        rw [hu] at hx
        have hx := rep_int hx
        simp [execOp, ho, convert, run_underlying ((htab _ _ hs).int _ hk1), run_underlying ((htab _ _ hd).int _ hk), hx, Conv.intToInt]
def absIndex (tab : Nat → Option Ty) (t : Nat) (x i : Operand) : RM Eff := opnd x fun u => opnd i fun v => match tab t with
  | none => .fail
  | some ty => if ty.str = true then match u, v with
      | .one (.at (.pv (.str s))), .one (.at (.pv (.int _ n))) => if n < 0 then .fail else match s[n.toNat]? with
        | some b => .ret ⟨.one (.at (.pv (.int .u8 b.toNat))), []⟩
        | none => .fail
      | _, _ => .fail
    else .fail
theorem done_index {o : Oper} {tab : Nat → Option Ty} {t : Nat} {x i : Operand} {e : Eff} (htab : ∀ t ty, tab t = some ty → TyOk P t ty) (ho : o.op = .index t x i) (h : (absIndex tab t x i).val σ = some e) : Done P w0 S0 G0 σ o e := by
  replace h := val_opnd h
  replace h := val_opnd h
  generalize hu : absO σ x = u at h
  generalize hv : absO σ i = v at h
  cases hty : tab t with
  | none => rw [hty] at h; simp [RM.val] at h
  | some ty =>
    rw [hty] at h
    dsimp only at h
    split at h
    case isFalse => simp [RM.val] at h
    case isTrue hs =>
      split at h
      case h_2 => simp [RM.val] at h
      case h_1 s k n =>
        split at h
        case isTrue => simp [RM.val] at h
        case isFalse hn =>
          split at h
          case h_2 => simp [RM.val] at h
          case h_1 b hb =>
            simp only [RM.val, Option.some.injEq] at h
            subst h
            refine Done.pure fun c a w hR => ⟨.int .u8 b.toNat, ?_, Rep.int _ _⟩
            have hx := hR.opnd x
            have hi := hR.opnd i
            rw [hu] at hx
            rw [hv] at hi
            have hx := rep_str hx
            have hi := rep_int hi
            have h0 : 0 ≤ n := by omega
            simp [execOp, ho, Instr.index, asIntOf, hx, hi, run_underlying ((htab _ _ hty).str hs), h0, hb]
/-- The bounds of a part. -/
def optInt (σ : St) : Option Operand → Option (Option Int)
  | none => some none
  | some x => match absO σ x with
    | .one (.at (.pv (.int _ n))) => some (some n)
    | _ => none
def IntOf (a : Act) : Option Operand → Option Int → Prop
  | none, none => True
  | some x, some n => ∃ kk, a.eval x = .int kk n
  | _, _ => False
def opndInt {α : Type} (x : Option Operand) (k : Option Int → RM α) : RM α := match x with
  | none => k none
  | some x => opnd x fun u => match u with
    | .one (.at (.pv (.int _ n))) => k (some n)
    | _ => .fail
theorem val_opndInt {α : Type} {x : Option Operand} {k : Option Int → RM α} {r : α} (h : (opndInt x k).val σ = some r) : ∃ n, (k n).val σ = some r ∧ ∀ w0 S0 G0 c a w, Rel w0 S0 G0 σ c a w → IntOf a x n := by
  cases x with
  | none => exact ⟨none, h, fun _ _ _ _ _ _ _ => trivial⟩
  | some x =>
    simp only [opndInt] at h
    replace h := val_opnd h
    generalize hu : absO σ x = u at h
    split at h
    case h_2 => simp [RM.val] at h
    case h_1 kk n =>
      refine ⟨some n, h, fun _ _ _ c a w hR => ⟨kk, ?_⟩⟩
      have hx := hR.opnd x
      rw [hu] at hx
      exact rep_int hx
def absSlice (tab : Nat → Option Ty) (t : Nat) (x : Operand) (lo hi : Option Operand) : RM Eff := opnd x fun u => opndInt lo fun l => opndInt hi fun h => match tab t with
  | none => .fail
  | some ty => if ty.str = true then match u with
      | .one (.at (.pv (.str s))) => if 0 ≤ l.getD 0 ∧ l.getD 0 ≤ h.getD s.size ∧ h.getD s.size ≤ s.size then .ret ⟨.one (.at (.pv (.str (s.extract (l.getD 0).toNat (h.getD s.size).toNat)))), []⟩ else .fail
      | _ => .fail
    else if ty.elem = 0 then .fail else match tab ty.elem with
      | none => .fail
      | some ety => match u with
        | .one (.at y) => atPV ety.size y fun p us => match p with
          | .list e xs => if (e = ety.size ∨ xs = []) ∧ 0 ≤ l.getD 0 ∧ l.getD 0 ≤ h.getD xs.length ∧ h.getD xs.length ≤ xs.length then
              .ret ⟨.one (.at (.pv (.list e ((xs.drop (l.getD 0).toNat).take ((h.getD xs.length).toNat - (l.getD 0).toNat))))), us⟩ else .fail
          | _ => .fail
        | _ => .fail
theorem run_bounds (isS : Bool) (len cap : Nat) (hlc : len ≤ cap) {lo hi : Option Operand} {l h : Option Int} (a : Act) (w : World)
    (hl : IntOf a lo l) (hh : IntOf a hi h)
    (h0 : 0 ≤ l.getD 0) (h1 : l.getD 0 ≤ h.getD len) (h2 : h.getD len ≤ len) :
    (Instr.sliceBounds isS len cap (lo.map a.eval) (hi.map a.eval) none).run P w = .ok ((l.getD 0).toNat, (h.getD (len : Int)).toNat, cap) w := by
  cases lo with
  | none => cases l with
    | some n => exact hl.elim
    | none => cases hi with
      | none => cases h with
        | some n => exact hh.elim
        | none => simp [Instr.sliceBounds]
      | some x => cases h with
        | none => exact hh.elim
        | some n =>
          obtain ⟨kk, e⟩ := hh
          have g1 : 0 ≤ n := h1
          have g2 : n ≤ (len : Int) := h2
          have g3 : 0 ≤ n ∧ n ≤ (cap : Int) := ⟨by omega, by omega⟩
          cases isS <;> simp [Instr.sliceBounds, Instr.sliceBound, e, asIntOf, g3]
  | some y => cases l with
    | none => exact hl.elim
    | some m =>
      obtain ⟨kk, e⟩ := hl
      have g0 : 0 ≤ m := h0
      cases hi with
      | none => cases h with
        | some n => exact hh.elim
        | none =>
          have g1 : m ≤ (len : Int) := h1
          have g2 : 0 ≤ m ∧ m ≤ (len : Int) := ⟨g0, g1⟩
          simp [Instr.sliceBounds, Instr.sliceBound, e, asIntOf, g2]
      | some x => cases h with
        | none => exact hh.elim
        | some n =>
          obtain ⟨kk', e'⟩ := hh
          have g1 : m ≤ n := h1
          have g2 : n ≤ (len : Int) := h2
          have g3 : 0 ≤ n ∧ n ≤ (cap : Int) := ⟨by omega, by omega⟩
          have g4 : 0 ≤ m ∧ m ≤ (n.toNat : Int) := ⟨g0, by omega⟩
          have g5 : 0 ≤ m ∧ m ≤ max n 0 := ⟨g0, by omega⟩
          cases isS <;> simp [Instr.sliceBounds, Instr.sliceBound, e, e', asIntOf, g3, g5]
theorem rep_sub {e esz : Nat} {xs : List (List PV)} {A : Option Addr} {n cap : Nat} (h : Rep G (.list e xs) (.slice A n cap)) {l h' : Nat} (h1 : l ≤ h') (h2 : h' ≤ xs.length) (he : e = esz ∨ xs = []) :
    Rep G (.list e ((xs.drop l).take (h' - l))) (.slice (if cap = l then A else A.map (·.add (l * esz))) (h' - l) (cap - l)) := by
  by_cases hz : h' - l = 0
  · rw [hz, List.take_zero]
    exact .nil _ _ _
  · generalize hv : Value.slice A n cap = v at h
    cases h with
    | nil _ A' cap' => simp at h2; omega
    | list _ _ g o cap' f hc hw hg hr =>
      cases hv
      have he : e = esz := by
        rcases he with h | h
        · exact h
        · rw [h] at h2; simp at h2; omega
      subst he
      rw [if_neg (by omega)]
      have hadd : ((⟨g, o, none⟩ : Addr).add (l * e)) = ⟨g, o + l * e, none⟩ := Addr.add_mid g o _
      simp only [Option.map_some, hadd]
      have hlen : ((xs.drop l).take (h' - l)).length = h' - l := by rw [List.length_take, List.length_drop]; omega
      have hget : ∀ (j : Nat) (x : List PV), ((xs.drop l).take (h' - l))[j]? = some x → xs[l + j]? = some x := fun j x hx => drop_take_get hx
      have := Rep.list (G := G) e ((xs.drop l).take (h' - l)) g (o + l * e) (cap - l) (fun j i => f (l + j) i) (by omega) (fun j x hx => hw _ x (hget j x hx)) (fun j x i y hx hy => by
        have := hg _ x i y (hget j x hx) hy
        rw [Nat.add_mul] at this
        rw [show o + l * e + j * e + i = o + (l * e + j * e) + i by omega]
        exact this) (fun j x i y hx hy => hr _ x i y (hget j x hx) hy)
      rw [hlen] at this
      exact this
theorem done_slice {o : Oper} {tab : Nat → Option Ty} {t : Nat} {x : Operand} {lo hi : Option Operand} {e : Eff} (htab : ∀ t ty, tab t = some ty → TyOk P t ty) (ho : o.op = .slice t x lo hi none) (h : (absSlice tab t x lo hi).val σ = some e) : Done P w0 S0 G0 σ o e := by
  replace h := val_opnd h
  have hx := fun c a w (hR : Rel w0 S0 G0 σ c a w) => hR.opnd x
  generalize absO σ x = u at h hx
  obtain ⟨l, h2, hl⟩ := val_opndInt h
  replace h := h2
  clear h2
  obtain ⟨hh, h2, hh2⟩ := val_opndInt h
  replace h := h2
  clear h2
  cases hty : tab t with
  | none => rw [hty] at h; simp [RM.val] at h
  | some ty =>
    rw [hty] at h
    have hT := htab t ty hty
    dsimp only at h
    split at h
    case isTrue hs =>
      split at h
      case h_2 => simp [RM.val] at h
      case h_1 s =>
        split at h
        case isFalse => simp [RM.val] at h
        case isTrue hc =>
          simp only [RM.val, Option.some.injEq] at h
          subst h
          refine Done.pure fun c a w hR => ⟨.string (s.extract (l.getD 0).toNat (hh.getD s.size).toNat), ?_, Rep.str _⟩
          have hv := rep_str (hx c a w hR)
          have hb := run_bounds (P := P) false s.size s.size (Nat.le_refl _) a w (hl _ _ _ c a w hR) (hh2 _ _ _ c a w hR) hc.1 hc.2.1 hc.2.2
          simp [execOp, ho, Instr.sliceAt, run_underlying (hT.str hs), Instr.slice, hv, hb]
    case isFalse hs =>
      split at h
      case isTrue => simp [RM.val] at h
      case isFalse he =>
        cases hety : tab ty.elem with
        | none => rw [hety] at h; simp [RM.val] at h
        | some ety =>
          rw [hety] at h
          have hE := htab _ ety hety
          dsimp only at h
          split at h
          case h_2 => simp [RM.val] at h
          case h_1 y =>
            obtain ⟨p, us, h2, H⟩ := val_atPV h
            replace h := h2
            clear h2
            split at h
            case h_2 => simp [RM.val] at h
            case h_1 e1 xs =>
              split at h
              case isFalse => simp [RM.val] at h
              case isTrue hc =>
                obtain ⟨hc0, hc1, hc2, hc3⟩ := hc
                simp only [RM.val, Option.some.injEq] at h
                subst h
                intro c a w hR
                obtain ⟨hF, HR⟩ := H σ (Frz.refl σ)
                obtain ⟨c', hR', hG, e1', e2', hv⟩ := HR w0 S0 G0 c a w hR
                have hrep := hv _ (hx c a w hR)
                obtain ⟨i, z, hinf, hsz, _⟩ := hE.info
                obtain ⟨A, cap, hA⟩ := rep_list_val hrep
                have hcap : xs.length ≤ cap ∨ xs = [] := by
                  rw [hA] at hrep
                  generalize hq : Value.slice A xs.length cap = q at hrep
                  cases hrep with
                  | nil _ A' cap' => right; rfl
                  | list _ _ g o cap' f hc hw hg hr => cases hq; left; exact hc
                have hcap : xs.length ≤ cap := by
                  rcases hcap with h | h
                  · exact h
                  · rw [h]; exact Nat.zero_le _
                have hb := run_bounds (P := P) true xs.length cap hcap a w (hl _ _ _ c a w hR) (hh2 _ _ _ c a w hR) hc1 hc2 hc3
                rw [hA] at hrep
                have hsub := rep_sub (esz := ety.size) hrep (l := (l.getD 0).toNat) (h' := (hh.getD (xs.length : Int)).toNat) (by omega) (by omega) hc0
                refine ⟨.slice (if cap = (l.getD 0).toNat then A else A.map (·.add ((l.getD 0).toNat * ety.size))) ((hh.getD (xs.length : Int)).toNat - (l.getD 0).toNat) (cap - (l.getD 0).toNat), w, .inl ?_, c', ?_⟩
                · simp [execOp, ho, Instr.sliceAt, run_underlying (hT.slice he), Instr.slice, hA, hb, sizeOf, typeInfo, hinf, hsz]
                · exact hR'.setSlot o.dst _ _ hsub
def absMin (isMax : Bool) (x y : Operand) : RM Eff := opnd x fun u => opnd y fun v => match u, v with
  | .one (.at (.pv (.int k a))), .one (.at (.pv (.int _ b))) => .ret ⟨.one (.at (.pv (.int k (if isMax = true then (if a < b then b else a) else (if b < a then b else a))))), []⟩
  | _, _ => .fail
theorem done_min {o : Oper} {cl : Call} {x y : Operand} {e : Eff} (ho : o.op = .call cl) (hc : cl.callee = .builtin .min) (ha : cl.args = #[x, y]) (h : (absMin false x y).val σ = some e) : Done P w0 S0 G0 σ o e := by
  replace h := val_opnd h
  replace h := val_opnd h
  generalize hu : absO σ x = u at h
  generalize hv : absO σ y = v at h
  split at h
  case h_2 => simp [RM.val] at h
  case h_1 k n k2 m =>
    simp only [RM.val, Option.some.injEq] at h
    subst h
    refine Done.pure fun c a w hR => ⟨.int k (if m < n then m else n), ?_, Rep.int _ _⟩
    have hx := hR.opnd x
    have hy := hR.opnd y
    rw [hu] at hx
    rw [hv] at hy
    have hx := rep_int hx
    have hy := rep_int hy
    simp [execOp, ho, resolve, hc, ha, invoke, builtin, Builtin.min_, hx, hy, Builtin.min2]
def absExtract (x : Operand) (i : Nat) : RM Eff := opnd x fun u => match u with
  | .tup l => match l[i]? with
    | some y => .ret ⟨.one y, []⟩
    | none => .fail
  | _ => .fail
theorem done_extract {o : Oper} {x : Operand} {i : Nat} {e : Eff} (ho : o.op = .extract x i) (h : (absExtract x i).val σ = some e) : Done P w0 S0 G0 σ o e := by
  replace h := val_opnd h
  generalize hu : absO σ x = u at h
  split at h
  case h_2 => simp [RM.val] at h
  case h_1 l =>
    split at h
    case h_2 => simp [RM.val] at h
    case h_1 y hy =>
      simp only [RM.val, Option.some.injEq] at h
      subst h
      refine Done.pure fun c a w hR => ?_
      have hx := hR.opnd x
      rw [hu] at hx
      obtain ⟨vs, e1, hl, hr⟩ := hx
      have hi := (List.getElem?_eq_some_iff.1 hy).1
      have hget : vs[i]? = some (vs.getD i undef) := get_of_getD (by omega)
      have hrep := hr i y hy
      generalize vs.getD i undef = z at hget hrep
      exact ⟨z, by simp [execOp, ho, e1, Instr.extract, hget], hrep⟩
/-- Two bools held against each other. -/
def absEqB (tab : Nat → Option Ty) (neq : Bool) (t : Nat) (x y : Operand) : RM Eff := opnd x fun u => opnd y fun v => match tab t with
  | none => .fail
  | some ty => if ty.bool = true then match u, v with
      | .one (.at (.pv (.bool a))), .one (.at (.pv (.bool b))) => .ret ⟨.one (.at (.pv (.bool (if neq = true then !(a == b) else a == b)))), []⟩
      | _, _ => .fail
    else .fail
theorem done_eqB {o : Oper} {tab : Nat → Option Ty} {op : BinOp} {t ty : TypeId} {x y : Operand} {e : Eff} (htab : ∀ t ty, tab t = some ty → TyOk P t ty) (hop : op = .eql ∨ op = .neq) (ho : o.op = .binOp op t x y ty) (h : (absEqB tab (match op with | .neq => true | _ => false) t x y).val σ = some e) : Done P w0 S0 G0 σ o e := by
  replace h := val_opnd h
  replace h := val_opnd h
  generalize hu : absO σ x = u at h
  generalize hv : absO σ y = v at h
  cases hty : tab t with
  | none => rw [hty] at h; simp [RM.val] at h
  | some tyy =>
    rw [hty] at h
    dsimp only at h
    split at h
    case isFalse => simp [RM.val] at h
    case isTrue hb =>
      split at h
      case h_2 => simp [RM.val] at h
      case h_1 p q =>
        simp only [RM.val, Option.some.injEq] at h
        subst h
        have hund := (htab _ _ hty).bool hb
        have hrun : ∀ w, (Op.equal t (.bool p) (.bool q)).run P w = .ok (p == q) w := fun w => run_equalIn_bool' (P := P) w 9999 t p q hund
        have hguard : ∀ (op : BinOp) (w : World), (eqGuard op t x y (.bool p) (.bool q)).run P w = .ok () w := fun op w => by cases op <;> rfl
        have hbe : ∀ w, (binOp .eql t (.bool p) (.bool q)).run P w = .ok (.bool (p == q)) w := fun w => by
          show ((Op.equal t (.bool p) (.bool q)) >>= fun b => pure (Value.bool b) : Sem Value).run P w = _
          rw [Sem.run_bind, hrun]
          rfl
        have hbn : ∀ w, (binOp .neq t (.bool p) (.bool q)).run P w = .ok (.bool (!(p == q))) w := fun w => by
          show ((Op.equal t (.bool p) (.bool q)) >>= fun b => pure (Value.bool (!b)) : Sem Value).run P w = _
          rw [Sem.run_bind, hrun]
          rfl
        rcases hop with rfl | rfl
        · refine Done.pure fun c a w hR => ⟨.bool (p == q), ?_, Rep.bool _⟩
          have hx := hR.opnd x
          have hy := hR.opnd y
          rw [hu] at hx
          rw [hv] at hy
          have hx := rep_bool hx
          have hy := rep_bool hy
          simp only [execOp, ho, hx, hy, Sem.run_bind, hguard, hbe, Sem.run_pure, Result.andThen_ok]
        · refine Done.pure fun c a w hR => ⟨.bool (!(p == q)), ?_, Rep.bool _⟩
          have hx := hR.opnd x
          have hy := hR.opnd y
          rw [hu] at hx
          rw [hv] at hy
          have hx := rep_bool hx
          have hy := rep_bool hy
          simp only [execOp, ho, hx, hy, Sem.run_bind, hguard, hbn, Sem.run_pure, Result.andThen_ok]
end Go.Eng
