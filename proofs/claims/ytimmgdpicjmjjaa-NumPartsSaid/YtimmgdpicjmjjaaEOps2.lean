/- The engine, part 4: operations that read: numbers and texts, loads, places. -/
import Derived.Test.YtimmgdpicjmjjaaEOps
namespace Go.Eng
open Go.RowKit
set_option linter.unusedVariables false
set_option linter.unusedSimpArgs false
variable {ob : Obs} {c : Con} {w w' w0 : World} {S0 : Nat → Prop} {G0 G : Gh} {σ σ' : St} {a a' : Act} {P : Program}
theorem rep_int {k : IntKind} {n : Int} {v : Value} (h : Rep G (.int k n) v) : v = .int k n := by cases h; rfl
theorem rep_bool {b : Bool} {v : Value} (h : Rep G (.bool b) v) : v = .bool b := by cases h; rfl
theorem rep_str {s : ByteArray} {v : Value} (h : Rep G (.str s) v) : v = .string s := by cases h; rfl
theorem rep_bin {op : BinOp} {x y r : PV} {u v : Value} (h : absBin op x y = some r) (hx : Rep G x u) (hy : Rep G y v) : u = toV x ∧ v = toV y := by
  unfold absBin at h
  split at h
  case h_1 => exact ⟨rep_int hx, rep_int hy⟩
  case h_2 => exact ⟨rep_str hx, rep_str hy⟩
  case h_3 => cases h
theorem absBin_rep {op : BinOp} {x y r : PV} (h : absBin op x y = some r) : Rep G r (toV r) := by
  have : (∃ k n, r = .int k n) ∨ (∃ b, r = .bool b) ∨ ∃ s, r = .str s := by
    unfold absBin at h
    split at h
    case h_1 => cases op <;> simp only at h <;> (try (split at h)) <;> (try (split at h)) <;> first | (cases h; done) | (simp only [Option.some.injEq] at h; subst h; first | exact .inl ⟨_, _, rfl⟩ | exact .inr (.inl ⟨_, rfl⟩) | exact .inr (.inr ⟨_, rfl⟩))
    case h_2 => cases op <;> simp only at h <;> (try (split at h)) <;> first | (cases h; done) | (simp only [Option.some.injEq] at h; subst h; first | exact .inl ⟨_, _, rfl⟩ | exact .inr (.inl ⟨_, rfl⟩) | exact .inr (.inr ⟨_, rfl⟩))
    case h_3 => cases h
  rcases this with ⟨k, n, rfl⟩ | ⟨b, rfl⟩ | ⟨s, rfl⟩
  · exact .int _ _
  · exact .bool _
  · exact .str _
def absBinO (op : BinOp) (x y : Operand) : RM Eff := opnd x fun u => opnd y fun v => match u, v with
  | .one (.at (.pv p)), .one (.at (.pv q)) => match absBin op p q with
    | some r => .ret ⟨.one (.at (.pv r)), []⟩
    | none => .fail
  | _, _ => .fail
theorem eqGuard_plain (op : BinOp) (t : TypeId) (x y : Operand) {p q r : PV} (h : absBin op p q = some r) (w : World) : (eqGuard op t x y (toV p) (toV q)).run P w = .ok () w := by
  unfold absBin at h
  split at h
  case h_1 => cases op <;> simp [eqGuard, toV]
  case h_2 => cases op <;> simp [eqGuard, toV]
  case h_3 => cases h
theorem done_bin {o : Oper} {op : BinOp} {t ty : TypeId} {x y : Operand} {e : Eff} (ho : o.op = .binOp op t x y ty) (h : (absBinO op x y).val σ = some e) : Done P w0 S0 G0 σ o e := by
  replace h := val_opnd h
  replace h := val_opnd h
  generalize hu : absO σ x = u at h
  generalize hv : absO σ y = v at h
  split at h
  case h_2 => simp [RM.val] at h
  case h_1 p q =>
    split at h
    case h_2 => simp [RM.val] at h
    case h_1 r hr =>
      simp only [RM.val, Option.some.injEq] at h
      subst h
      refine Done.pure fun c a w hR => ⟨toV r, ?_, absBin_rep hr⟩
      have h1 := hR.opnd x
      have h2 := hR.opnd y
      rw [hu] at h1
      rw [hv] at h2
      obtain ⟨e1, e2⟩ := rep_bin hr h1 h2
      simp [execOp, ho, e1, e2, eqGuard_plain op t x y hr, run_absBin t hr]
def absUn (op : UnOp) (x : Operand) : RM Eff := opnd x fun u => match op, u with
  | .not, .one (.at (.pv (.bool b))) => .ret ⟨.one (.at (.pv (.bool (!b)))), []⟩
  | .neg, .one (.at (.pv (.int k n))) => .ret ⟨.one (.at (.pv (.int k (k.wrap (0 - n))))), []⟩
  | _, _ => .fail
theorem done_un {o : Oper} {op : UnOp} {t : TypeId} {x : Operand} {e : Eff} (ho : o.op = .unOp op t x) (h : (absUn op x).val σ = some e) : Done P w0 S0 G0 σ o e := by
  replace h := val_opnd h
  generalize hu : absO σ x = u at h
  split at h
  case h_1 =>
    rename_i b
    simp only [RM.val, Option.some.injEq] at h
    subst h
    refine Done.pure fun c a w hR => ⟨.bool (!b), ?_, Rep.bool _⟩
    have h1 := hR.opnd x
    rw [hu] at h1
    simp [execOp, ho, rep_bool h1, Op.unary]
  case h_2 =>
    rename_i k n
    simp only [RM.val, Option.some.injEq] at h
    subst h
    refine Done.pure fun c a w hR => ⟨.int k (k.wrap (0 - n)), ?_, Rep.int _ _⟩
    have h1 := hR.opnd x
    rw [hu] at h1
    simp [execOp, ho, rep_int h1, Op.unary, Op.intArith]
  case h_3 => simp [RM.val] at h
/-! ### Loads -/
def retLoad (ty : Ty) (l : List At) : RM Eff :=
  if l.length = ty.size then (if ty.agg then .ret ⟨.one (.agg l), []⟩ else match l with | [x] => .ret ⟨.one (.at x), []⟩ | _ => .fail) else .fail
def gone (g : Nat) (x : Nat × Option AObj) : Option AObj := if x.1 = g then x.2 else none
def absLoad (tab : Nat → Option Ty) (t : Nat) (x : Operand) : RM Eff := opnd x fun v => match tab t with
  | none => .fail
  | some ty => match v with
    | .one (.at (.ptr k g off)) => .obj k fun q => match gone g q with
      | some (.blk cells) => retLoad ty ((cells.drop off).take ty.size)
      | some (.fro cells) => retLoad ty (((cells.drop off).take ty.size).map .pv)
      | _ => .fail
    | .one (.at (.pv (.ref cells))) => retLoad ty ((cells.take ty.size).map .pv)
    | .one (.at (.eptr k g j off)) => .obj k fun q => match gone g q with
      | some (.row _ _ xs) => match xs[j]? with
        | some x => retLoad ty (((x.drop off).take ty.size).map .pv)
        | none => .fail
      | some (.view _ xs) => match xs[j]? with
        | some x => retLoad ty (((x.drop off).take ty.size).map .pv)
        | none => .fail
      | _ => .fail
    | _ => .fail
theorem run_load_word {t : Nat} {d : TypeDesc} (hu : P.underlying t = some d) (hd : d.isRow = false) {b o : Nat} {v : Value} (hc : w.cell? ⟨b, o, none⟩ = some v) :
    (Instr.loadAt t (.pointer (some ⟨b, o, none⟩))).run P w = .ok v w := by
  have hagg : (isAgg t).run P w = .ok false w := by
    unfold isAgg
    rw [Sem.run_bind, run_underlying hu w]
    cases d <;> simp_all
  simp [Instr.loadAt, Instr.sureAddr, loadVar, hagg, load, Sem.run, hc]
/-- A load of cells that are there and stand for what is told of them. -/
theorem load_cells {ty : Ty} {t : Nat} {l : List At} {e : Eff} (ht : TyOk P t ty) (h : (retLoad ty l).val σ = some e) (b o : Nat)
    (hc : ∀ i x, l[i]? = some x → ∃ v, w.cell? ⟨b, o + i, none⟩ = some v ∧ RepAt ob c x v) :
    e.upd = [] ∧ ∃ v, (Instr.loadAt t (.pointer (some ⟨b, o, none⟩))).run P w = .ok v w ∧ RepAV ob c e.val v := by
  obtain ⟨d, hu, hd⟩ := ht.isAgg
  unfold retLoad at h
  split at h
  case isFalse => simp [RM.val] at h
  case isTrue hl =>
    split at h
    case isTrue ha =>
      simp only [RM.val, Option.some.injEq] at h
      subst h
      refine ⟨rfl, ?_⟩
      let vs : List Value := (List.range l.length).map fun i => (w.cell? ⟨b, o + i, none⟩).getD undef
      have hv : ∀ i x, l[i]? = some x → w.cell? ⟨b, o + i, none⟩ = some (vs.getD i undef) ∧ RepAt ob c x (vs.getD i undef) := fun i x hx => by
        obtain ⟨v, h1, h2⟩ := hc i x hx
        have hi := (List.getElem?_eq_some_iff.1 hx).1
        have e : vs.getD i undef = v := by simp [vs, List.getD_eq_getElem?_getD, hi, h1]
        rw [e]
        exact ⟨h1, h2⟩
      obtain ⟨i, z, hi, hsz, _⟩ := ht.info
      have hlen : vs.length = l.length := by simp [vs]
      refine ⟨.agg vs.toArray, run_loadAt_mid w b o t vs d (fun j v hj => ?_) hu (by rw [hd, ha]) (by rw [hi, Option.map_some, hlen, hl, hsz]), vs.toArray, rfl, by simp [hlen], fun i x hx => ?_⟩
      · have hj' := (List.getElem?_eq_some_iff.1 hj).1
        obtain ⟨x, hx⟩ : ∃ x, l[j]? = some x := ⟨l[j]'(by omega), List.getElem?_eq_getElem (by omega)⟩
        rw [(hv j x hx).1, List.getD_eq_getElem?_getD, hj]
        rfl
      · have := (hv i x hx).2
        rw [Array.getD_eq_getD_getElem?, List.getElem?_toArray]
        rw [List.getD_eq_getElem?_getD] at this
        exact this
    case isFalse ha =>
      split at h
      case h_2 => simp [RM.val] at h
      case h_1 x =>
        simp only [RM.val, Option.some.injEq] at h
        subst h
        obtain ⟨v, h1, h2⟩ := hc 0 x rfl
        refine ⟨rfl, v, run_load_word hu (by rw [hd]; simpa using ha) h1, h2⟩
theorem drop_take_get {α : Type} {l : List α} {off n i : Nat} {x : α} (h : ((l.drop off).take n)[i]? = some x) : l[off + i]? = some x := by
  rw [List.getElem?_take] at h
  split at h
  · rw [List.getElem?_drop] at h; exact h
  · cases h
theorem map_get {α β : Type} {f : α → β} {l : List α} {i : Nat} {x : β} (h : (l.map f)[i]? = some x) : ∃ y, l[i]? = some y ∧ f y = x := by
  rw [List.getElem?_map] at h
  exact Option.map_eq_some_iff.1 h
theorem gone_some {g : Nat} {x : Nat × Option AObj} {o : AObj} (h : gone g x = some o) : x = (g, some o) := by
  unfold gone at h
  split at h
  · rename_i e
    obtain ⟨x1, x2⟩ := x
    simp only at e h
    rw [e, h]
  · cases h
theorem alive_of {ob : Obs} {k g : Nat} {o : AObj} (h : ob k = (g, some o)) : alive ob k g = some o := by unfold alive; rw [h, if_pos rfl]
theorem cell_of_blk {w : World} {b : Nat} {cs : Array Value} {ty : TypeId} (h : w.heap[b]? = some (.cells cs ty (0, 0))) (i : Nat) : w.cell? ⟨b, i, none⟩ = cs[i]? := by
  simp [World.cell?, h]
theorem get_of_getD {cs : Array Value} {i : Nat} (h : i < cs.size) : cs[i]? = some (cs.getD i undef) := by
  rw [Array.getD_eq_getD_getElem?, Array.getElem?_eq_getElem h]
  rfl
/-- An element of a row, its cells. -/
theorem Rel.row_elem (h : Rel w0 S0 G0 σ c a w) {k g e : Nat} {o : AObj} {xs : List (List PV)} (ho : σ.ob k = (g, some o)) (hx : o = .row true e xs ∨ o = .row false e xs ∨ o = .view e xs) {j : Nat} {x : List PV} (hj : xs[j]? = some x) :
    ∃ b, c.ρ k = some b ∧ xs.length ≤ c.cp k ∧ x.length = e ∧ ∀ i y, x[i]? = some y → ∃ v, w.cell? ⟨b, j * e + i, none⟩ = some v ∧ Rep c.G y v := by
  have hk := h.obs k g o ho
  have hjl := (List.getElem?_eq_some_iff.1 hj).1
  have rowcase : ∀ own, ObOk σ.ob c w k (.row own e xs) → ∃ b, c.ρ k = some b ∧ xs.length ≤ c.cp k ∧ x.length = e ∧ ∀ i y, x[i]? = some y → ∃ v, w.cell? ⟨b, j * e + i, none⟩ = some v ∧ Rep c.G y v := by
    intro own hk
    rcases hk with ⟨_, e2, _⟩ | ⟨b, cs, ty, hb, hh, hl, hc, hw, hr, _⟩
    · subst e2; simp at hj
    · have hxe := hw j x hj
      refine ⟨b, hb, hl, hxe, fun i y hy => ?_⟩
      have hil := (List.getElem?_eq_some_iff.1 hy).1
      have : j * e + i < cs.size := by
        rw [hc]
        have h1 : (j + 1) * e ≤ c.cp k * e := Nat.mul_le_mul_right e (by omega)
        rw [Nat.succ_mul] at h1
        omega
      exact ⟨_, by rw [cell_of_blk hh]; exact get_of_getD this, hr j x i y hj hy⟩
  rcases hx with rfl | rfl | rfl
  · exact rowcase true hk
  · exact rowcase false hk
  · rcases hk with ⟨_, e2⟩ | ⟨b, hb, hl, hw, hr⟩
    · subst e2; simp at hj
    · exact ⟨b, hb, hl, hw j x hj, fun i y hy => let ⟨v, h1, h2⟩ := hr j x i y hj hy; ⟨v, h.imm _ _ _ h1, h2⟩⟩
theorem load_run {tab : Nat → Option Ty} {t : Nat} {x : Operand} {e : Eff} (htab : ∀ t ty, tab t = some ty → TyOk P t ty) (h : (absLoad tab t x).val σ = some e) {c : Con} {a : Act} {w : World} (hR : Rel w0 S0 G0 σ c a w) :
    e.upd = [] ∧ ∃ v, (Instr.loadAt t (a.eval x)).run P w = .ok v w ∧ RepAV σ.ob c e.val v := by
  replace h := val_opnd h
  cases hty : tab t with
  | none => rw [hty] at h; simp [RM.val] at h
  | some ty =>
    rw [hty] at h
    have ht := htab t ty hty
    have hx := hR.opnd x
    generalize absO σ x = u at h hx
    dsimp only at h
    split at h
    case h_1 k g off =>
      simp only [RM.val] at h
      obtain ⟨hg, hp⟩ := hx
      cases hq : gone g (σ.ob k) with
      | none => rw [hq] at h; simp [RM.val] at h
      | some ob1 =>
        have hob := gone_some hq
        have hal := alive_of hob
        have hk := hR.obs k g ob1 hob
        rw [hq] at h
        cases ob1 with
        | row own e xs => simp [RM.val] at h
        | view e xs => simp [RM.val] at h
        | blk cells =>
          obtain ⟨b, hb, hv⟩ := hp (by rw [hal]; rfl)
          obtain ⟨b', cs, ty', hb', hh, hl, hr, _⟩ := hk
          rw [hb] at hb'; cases hb'
          rw [hv]
          refine load_cells ht h b off fun i x hx => ?_
          have hx := drop_take_get hx
          have hi := (List.getElem?_eq_some_iff.1 hx).1
          exact ⟨_, by rw [cell_of_blk hh]; exact get_of_getD (by omega), hr _ _ hx⟩
        | fro cells =>
          obtain ⟨b, hb, hv⟩ := hp (by rw [hal]; rfl)
          obtain ⟨b', hb', hr⟩ := hk
          rw [hb] at hb'; cases hb'
          rw [hv]
          refine load_cells ht h b off fun i x hx => ?_
          obtain ⟨y, hy, rfl⟩ := map_get hx
          obtain ⟨v, h1, h2⟩ := hr _ _ (drop_take_get hy)
          exact ⟨v, hR.imm _ _ _ h1, h2⟩
    case h_2 cells =>
      have hx : Rep c.G (.ref cells) (a.eval x) := hx
      generalize a.eval x = u at hx
      cases hx with
      | ref _ g o f hg hr =>
        refine load_cells ht h g o fun i x hx => ?_
        obtain ⟨y, hy, rfl⟩ := map_get hx
        rw [List.getElem?_take] at hy
        split at hy
        · exact ⟨_, hR.imm _ _ _ (hg i y hy), hr i y hy⟩
        · cases hy
    case h_3 k g j off =>
      simp only [RM.val] at h
      obtain ⟨hg, hp⟩ := hx
      cases hq : gone g (σ.ob k) with
      | none => rw [hq] at h; simp [RM.val] at h
      | some ob1 =>
        have hob := gone_some hq
        have hal := alive_of hob
        rw [hq] at h
        have rest : ∀ e1 xs, (ob1 = .row true e1 xs ∨ ob1 = .row false e1 xs ∨ ob1 = .view e1 xs) → (match xs[j]? with | some x => retLoad ty (((x.drop off).take ty.size).map .pv) | none => RM.fail).val σ = some e →
            e.upd = [] ∧ ∃ v, (Instr.loadAt t (a.eval x)).run P w = .ok v w ∧ RepAV σ.ob c e.val v := by
          intro e1 xs hxs h
          cases hj : xs[j]? with
          | none => rw [hj] at h; simp [RM.val] at h
          | some x1 =>
            rw [hj] at h
            obtain ⟨b, hb, _, _, hr⟩ := hR.row_elem hob hxs hj
            obtain ⟨b', hb', hv⟩ := hp e1 (by rw [hal]; rcases hxs with rfl | rfl | rfl <;> rfl)
            rw [hb] at hb'; cases hb'
            rw [hv]
            refine load_cells ht h b _ fun i y hy => ?_
            obtain ⟨z, hz, rfl⟩ := map_get hy
            obtain ⟨v, h1, h2⟩ := hr _ _ (drop_take_get hz)
            exact ⟨v, by rw [Nat.add_assoc]; exact h1, h2⟩
        cases ob1 with
        | blk cells => simp [RM.val] at h
        | fro cells => simp [RM.val] at h
        | row own e1 xs => exact rest e1 xs (by cases own <;> simp) h
        | view e1 xs => exact rest e1 xs (by simp) h
    case h_4 => simp [RM.val] at h
theorem done_load {o : Oper} {tab : Nat → Option Ty} {t : Nat} {x : Operand} {e : Eff} (htab : ∀ t ty, tab t = some ty → TyOk P t ty) (ho : o.op = .load t x) (h : (absLoad tab t x).val σ = some e) : Done P w0 S0 G0 σ o e := by
  intro c a w hR
  obtain ⟨h0, v, h1, h2⟩ := load_run htab h hR
  refine ⟨v, w, .inl (by simp [execOp, ho, h1]), c, ?_⟩
  have := hR.setSlot o.dst e.val v h2
  unfold St.app St.lays
  rw [h0]
  exact this
/-! ### Places -/
def absFieldAddr (tab : Nat → Option Ty) (t : Nat) (x : Operand) (f : Nat) : RM Eff := opnd x fun v => match tab t with
  | none => .fail
  | some ty => match ty.fields[f]? with
    | none => .fail
    | some (off, ft) => match tab ft with
      | none => .fail
      | some fty => if fty.size = 0 then .fail else match v with
        | .one (.at (.ptr k g o)) => .obj k fun q => match gone g q with
          | some (.blk _) => .ret ⟨.one (.at (.ptr k g (o + off))), []⟩
          | some (.fro _) => .ret ⟨.one (.at (.ptr k g (o + off))), []⟩
          | _ => .fail
        | .one (.at (.eptr k g j o)) => .obj k fun q => match gone g q with
          | some (.row _ _ _) => .ret ⟨.one (.at (.eptr k g j (o + off))), []⟩
          | some (.view _ _) => .ret ⟨.one (.at (.eptr k g j (o + off))), []⟩
          | _ => .fail
        | .one (.at (.pv (.ref cells))) => .ret ⟨.one (.at (.pv (.ref (cells.drop off)))), []⟩
        | _ => .fail
theorem run_fieldAt {t f b o : Nat} {ty fty : Ty} {off ft : Nat} (ht : TyOk P t ty) (hf : TyOk P ft fty) (hq : ty.fields[f]? = some (off, ft)) (hs : ¬ fty.size = 0) :
    (Instr.fieldAt t (.pointer (some ⟨b, o, none⟩)) f).run P w = .ok (.pointer (some ⟨b, o + off, none⟩)) w := by
  obtain ⟨F, hF, hr⟩ := ht.fields (fun e => by rw [e] at hq; simp at hq)
  obtain ⟨fl, h1, h2, h3⟩ := hr f _ hq
  obtain ⟨i, z, hi, hsz, _⟩ := hf.info
  simp only at h2 h3
  have hi' : P.info? fl.type = some i := by rw [h3, hi]
  have hs' : ¬ i.size = 0 := by rw [hsz]; exact hs
  simp [Instr.fieldAt, Instr.sureAddr, run_underlying hF, h1, fieldPlace, sizeOf, typeInfo, hi', hs', Addr.add_mid, h2]
theorem done_fieldAddr {o : Oper} {tab : Nat → Option Ty} {t f : Nat} {x : Operand} {e : Eff} (htab : ∀ t ty, tab t = some ty → TyOk P t ty) (ho : o.op = .fieldAddr t x f) (h : (absFieldAddr tab t x f).val σ = some e) : Done P w0 S0 G0 σ o e := by
  replace h := val_opnd h
  cases hty : tab t with
  | none => rw [hty] at h; simp [RM.val] at h
  | some ty =>
    rw [hty] at h
    cases hq : ty.fields[f]? with
    | none => simp [hq, RM.val] at h
    | some q =>
      obtain ⟨off, ft⟩ := q
      cases hft : tab ft with
      | none => simp [hq, hft, RM.val] at h
      | some fty =>
        simp only [hq, hft] at h
        split at h
        case isTrue => simp [RM.val] at h
        case isFalse hs =>
          have R := fun (w : World) (b o : Nat) => run_fieldAt (w := w) (b := b) (o := o) (htab t ty hty) (htab ft fty hft) hq hs
          generalize hu : absO σ x = u at h
          split at h
          case h_1 k g off0 =>
            simp only [RM.val] at h
            have key : (match gone g (σ.ob k) with
                | some (.blk _) => RM.ret (α := Eff) ⟨.one (.at (.ptr k g (off0 + off))), []⟩
                | some (.fro _) => .ret ⟨.one (.at (.ptr k g (off0 + off))), []⟩
                | _ => .fail).val σ = some e → isVar (gone g (σ.ob k)) = true ∧ e = ⟨.one (.at (.ptr k g (off0 + off))), []⟩ := by
              intro h
              split at h
              · rename_i q; rw [q]; simp only [RM.val, Option.some.injEq] at h; exact ⟨rfl, h.symm⟩
              · rename_i q; rw [q]; simp only [RM.val, Option.some.injEq] at h; exact ⟨rfl, h.symm⟩
              · simp [RM.val] at h
            obtain ⟨hv, he⟩ := key h
            subst he
            refine Done.pure fun c a w hR => ?_
            have hx := hR.opnd x
            rw [hu] at hx
            obtain ⟨hg, hp⟩ := hx
            obtain ⟨b, hb, hv'⟩ := hp hv
            exact ⟨.pointer (some ⟨b, off0 + off, none⟩), by simp [execOp, ho, hv', R], hg, fun _ => ⟨b, hb, rfl⟩⟩
          case h_2 k g j off0 =>
            simp only [RM.val] at h
            have key : (match gone g (σ.ob k) with
                | some (.row _ _ _) => RM.ret (α := Eff) ⟨.one (.at (.eptr k g j (off0 + off))), []⟩
                | some (.view _ _) => .ret ⟨.one (.at (.eptr k g j (off0 + off))), []⟩
                | _ => .fail).val σ = some e → (∃ e1, rowE (gone g (σ.ob k)) = some e1) ∧ e = ⟨.one (.at (.eptr k g j (off0 + off))), []⟩ := by
              intro h
              split at h
              · rename_i q; rw [q]; simp only [RM.val, Option.some.injEq] at h; exact ⟨⟨_, rfl⟩, h.symm⟩
              · rename_i q; rw [q]; simp only [RM.val, Option.some.injEq] at h; exact ⟨⟨_, rfl⟩, h.symm⟩
              · simp [RM.val] at h
            obtain ⟨⟨e1, hv⟩, he⟩ := key h
            subst he
            refine Done.pure fun c a w hR => ?_
            have hx := hR.opnd x
            rw [hu] at hx
            obtain ⟨hg, hp⟩ := hx
            obtain ⟨b, hb, hv'⟩ := hp e1 hv
            refine ⟨.pointer (some ⟨b, j * e1 + off0 + off, none⟩), by simp [execOp, ho, hv', R], hg, fun e2 h2 => ⟨b, hb, ?_⟩⟩
            have : some e1 = some e2 := hv.symm.trans h2
            cases this
            rw [Nat.add_assoc]
          case h_3 cells =>
            simp only [RM.val, Option.some.injEq] at h
            subst h
            refine Done.pure fun c a w hR => ?_
            have hx := hR.opnd x
            rw [hu] at hx
            have hx : Rep c.G (.ref cells) (a.eval x) := hx
            generalize hz : a.eval x = z at hx
            cases hx with
            | ref _ g o f hg hr =>
              refine ⟨.pointer (some ⟨g, o + off, none⟩), by simp [execOp, ho, hz, R], ?_⟩
              refine Rep.ref (cells.drop off) g (o + off) (fun i => f (off + i)) (fun i c hc => ?_) (fun i c hc => ?_)
              · rw [List.getElem?_drop] at hc; rw [Nat.add_assoc]; exact hg _ _ hc
              · rw [List.getElem?_drop] at hc; exact hr _ _ hc
          case h_4 => simp [RM.val] at h
end Go.Eng
