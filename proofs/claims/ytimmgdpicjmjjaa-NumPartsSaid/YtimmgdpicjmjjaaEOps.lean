/- The engine, part 3: operations upon states; those that make no call. -/
import Derived.Test.YtimmgdpicjmjjaaEStep
import Derived.Deep.MidRow
import Derived.Deep.AppendSrc
import Derived.Laws.StructEq
namespace Go.Eng
open Go.RowKit
set_option linter.unusedVariables false
set_option linter.unusedSimpArgs false
/-- A reading of a state, cell by cell. -/
inductive RM (α : Type) where
  | ret (a : α)
  | fail
  | slot (t : Nat) (k : AV → RM α)
  | obj (q : Nat) (k : Nat × Option AObj → RM α)
def RM.val {α : Type} (σ : St) : RM α → Option α
  | .ret a => some a
  | .fail => none
  | .slot t k => (k (σ.slot t)).val σ
  | .obj q k => (k (σ.ob q)).val σ
/-- What it looks at: slots, things. -/
def RM.sees {α : Type} (σ : St) : RM α → List Nat × List Nat
  | .ret _ => ([], [])
  | .fail => ([], [])
  | .slot t k => let r := (k (σ.slot t)).sees σ; (t :: r.1, r.2)
  | .obj q k => let r := (k (σ.ob q)).sees σ; (r.1, q :: r.2)
theorem RM.agree {α : Type} {σ σ' : St} : ∀ (m : RM α), (∀ t ∈ (m.sees σ).1, σ'.slot t = σ.slot t) → (∀ q ∈ (m.sees σ).2, σ'.ob q = σ.ob q) → m.val σ' = m.val σ
  | .ret _, _, _ => rfl
  | .fail, _, _ => rfl
  | .slot t k, h1, h2 => by
    simp only [RM.val, RM.sees] at *
    rw [h1 t (.head _)]
    exact RM.agree _ (fun u hu => h1 u (.tail _ hu)) h2
  | .obj q k, h1, h2 => by
    simp only [RM.val, RM.sees] at *
    rw [h2 q (.head _)]
    exact RM.agree _ h1 (fun u hu => h2 u (.tail _ hu))
/-- What an operation does to a state. -/
structure Eff where
  val : AV
  upd : List (Nat × Nat × Option AObj)
def St.lays (σ : St) (us : List (Nat × Nat × Option AObj)) : St := { σ with obs := us.foldl (fun l u => lay l u.1 u.2) σ.obs }
def St.app (σ : St) (d : Option Nat) (e : Eff) : St := (σ.lays e.upd).put d e.val
/-- Types, as far as a walk needs them. -/
structure Ty where
  agg : Bool
  size : Nat
  bytes : Nat
  elem : Nat
  fields : List (Nat × Nat)
  zero : List At
  es : List Nat
  str : Bool
  bool : Bool
  int : Option IntKind
  deriving Inhabited
def constAt : Value → At
  | .int k n => .pv (.int k n)
  | .bool b => .pv (.bool b)
  | .string s => .pv (.str s)
  | .slice A n m => if A = none ∧ n = 0 ∧ m = 0 then .nil else .any
  | _ => .any
def constV : Value → AV
  | .agg cs => .one (.agg (cs.toList.map constAt))
  | .tuple _ => .any
  | v => .one (.at (constAt v))
/-- What is told of a type is so. -/
structure TyOk (P : Program) (t : Nat) (ty : Ty) : Prop where
  info : ∃ i z, P.info? t = some i ∧ i.size = ty.size ∧ i.bytes = ty.bytes ∧ i.zero = some z ∧ z.cells.toList.map constAt = ty.zero ∧ z.cells.size = ty.size ∧ (z.cells.all (·.oneCell') = true)
  isAgg : ∃ d, P.underlying t = some d ∧ (d.isRow = ty.agg)
  slice : ty.elem ≠ 0 → P.underlying t = some (.slice ty.elem)
  str : ty.str = true → P.underlying t = some .string
  bool : ty.bool = true → P.underlying t = some .bool
  int : ∀ k, ty.int = some k → P.underlying t = some (.int k)
  fields : ty.fields ≠ [] → ∃ F : Array Field, P.underlying t = some (.struct F) ∧ ∀ (i : Nat) (q : Nat × Nat), ty.fields[i]? = some q → ∃ f : Field, F[i]? = some f ∧ f.offset = q.1 ∧ f.type = q.2
def opnd {α : Type} (x : Operand) (k : AV → RM α) : RM α :=
  match x with
  | .tmp t => .slot t k
  | .const v => k (constV v)
  | .func f => k (.one (.at (.pv (.fn f []))))
  | .global _ => .fail
def absO (σ : St) : Operand → AV
  | .tmp t => σ.slot t
  | .const v => constV v
  | .func f => .one (.at (.pv (.fn f [])))
  | .global _ => .any
theorem val_opnd {α : Type} {σ : St} {x : Operand} {k : AV → RM α} {r : α} (h : (opnd x k).val σ = some r) : (k (absO σ x)).val σ = some r := by
  cases x with
  | tmp t => exact h
  | const v => exact h
  | func f => exact h
  | global g => simp [opnd, RM.val] at h
variable {ob : Obs} {c : Con} {w w' w0 : World} {S0 : Nat → Prop} {G0 : Gh} {σ σ' : St} {a a' : Act} {P : Program}
theorem rep_constAt (v : Value) : RepAt ob c (constAt v) v := by
  cases v <;> try trivial
  case int k n => exact .int _ _
  case bool b => exact .bool _
  case string s => exact .str _
  case slice A n m =>
    unfold constAt
    dsimp only
    split
    · rename_i h
      obtain ⟨rfl, rfl, rfl⟩ := h
      rfl
    · trivial
theorem rep_constV (v : Value) : RepAV ob c (constV v) v := by
  unfold constV
  split
  · rename_i cs
    refine ⟨cs, rfl, by simp, fun i x hx => ?_⟩
    rw [List.getElem?_map] at hx
    obtain ⟨u, hu, rfl⟩ := Option.map_eq_some_iff.1 hx
    rw [Array.getElem?_toList] at hu
    rw [Array.getD_eq_getD_getElem?, hu]
    exact rep_constAt u
  · trivial
  · exact rep_constAt _
theorem Rel.opnd (h : Rel w0 S0 G0 σ c a w) (x : Operand) : RepAV σ.ob c (absO σ x) (a.eval x) := by
  cases x with
  | tmp t => exact h.slots t
  | const v => exact rep_constV v
  | func f => exact Rep.fn f [] #[] rfl (by simp)
  | global g => trivial
/-- An operation, done: its value, its world. -/
def Done (P : Program) (w0 : World) (S0 : Nat → Prop) (G0 : Gh) (σ : St) (o : Oper) (e : Eff) : Prop :=
  ∀ c a w, Rel w0 S0 G0 σ c a w → ∃ v w', ((execOp a.eval o).run P w = .ok (.value v) w' ∨ ((execOp a.eval o).run P w = .ok .skip w' ∧ v = undef)) ∧ ∃ c', Rel w0 S0 G0 (σ.app o.dst e) c' (a.put o.dst v) w'
theorem Done.pure {o : Oper} {x : AV} (h : ∀ c a w, Rel w0 S0 G0 σ c a w → ∃ v, (execOp a.eval o).run P w = .ok (.value v) w ∧ RepAV σ.ob c x v) : Done P w0 S0 G0 σ o ⟨x, []⟩ := by
  intro c a w hr
  obtain ⟨v, h1, h2⟩ := h c a w hr
  exact ⟨v, w, .inl h1, c, hr.setSlot o.dst x v h2⟩
/-! ### Moves, picks -/
def absMove (x : Operand) : RM Eff := opnd x fun v => .ret ⟨v, []⟩
theorem done_move {o : Oper} {x : Operand} {e : Eff} (ho : o.op = .move x ∨ o.op = .assign x) (h : (absMove x).val σ = some e) : Done P w0 S0 G0 σ o e := by
  replace h := val_opnd h
  simp only [RM.val, Option.some.injEq] at h
  subst h
  refine Done.pure fun c a w hr => ⟨a.eval x, ?_, hr.opnd x⟩
  rcases ho with ho | ho <;> simp [execOp, ho]
def absPick (x y z : Operand) : RM Eff := opnd x fun v => match v with
  | .one (.at (.pv (.bool b))) => if b then absMove y else absMove z
  | _ => .fail
theorem done_pick {o : Oper} {x y z : Operand} {e : Eff} (ho : o.op = .pick x y z) (h : (absPick x y z).val σ = some e) : Done P w0 S0 G0 σ o e := by
  replace h := val_opnd h
  generalize hv : absO σ x = v at h
  split at h
  case h_1 b =>
    have key : ∃ q, (absMove q).val σ = some e ∧ (if b then y else z) = q := by
      cases b
      · exact ⟨z, h, rfl⟩
      · exact ⟨y, h, rfl⟩
    obtain ⟨q, hq, eq⟩ := key
    have hq := val_opnd hq
    simp only [RM.val, Option.some.injEq] at hq
    subst hq
    refine Done.pure fun c a w hr => ⟨a.eval q, ?_, hr.opnd q⟩
    have hx := hr.opnd x
    rw [hv] at hx
    have hx : a.eval x = .bool b := by
      generalize a.eval x = u at hx
      cases hx
      rfl
    cases b <;> simp [execOp, ho, hx, asBool, ← eq]
  case h_2 => simp [RM.val] at h
/-! ### Numbers, texts -/
def absBin (op : BinOp) (x y : PV) : Option PV :=
  match x, y with
  | .int k a, .int k' b =>
    match op with
    | .shl => if b < 0 then none else some (.int k (k.wrap (a * 2 ^ (min b.toNat k.bits))))
    | .shr => if b < 0 then none else some (.int k (a.fdiv (2 ^ (min b.toNat k.bits))))
    | _ => if k ≠ k' then none else
      match op with
      | .add => some (.int k (k.wrap (a + b)))
      | .sub => some (.int k (k.wrap (a - b)))
      | .mul => some (.int k (k.wrap (a * b)))
      | .quo => if b = 0 then none else some (.int k (k.wrap (a.tdiv b)))
      | .rem => if b = 0 then none else some (.int k (a.tmod b))
      | .and => some (.int k (k.wrap ((BitVec.ofInt k.bits a &&& BitVec.ofInt k.bits b).toNat : Int)))
      | .or => some (.int k (k.wrap ((BitVec.ofInt k.bits a ||| BitVec.ofInt k.bits b).toNat : Int)))
      | .eql => some (.bool (a == b))
      | .neq => some (.bool (a != b))
      | .lss => some (.bool (decide (a < b)))
      | .leq => some (.bool (decide (a ≤ b)))
      | .gtr => some (.bool (decide (a > b)))
      | .geq => some (.bool (decide (a ≥ b)))
      | _ => none
  | .str a, .str b =>
    match op with
    | .add => if ((a.size + b.size : Nat) : Int) > IntKind.i64.max then none else some (.str (a ++ b))
    | .eql => some (.bool (a.toList == b.toList))
    | .neq => some (.bool (!(a.toList == b.toList)))
    | .lss => some (.bool (Op.bytesLess a.toList b.toList))
    | .leq => some (.bool (Op.bytesLess a.toList b.toList || a.toList == b.toList))
    | .gtr => some (.bool (!(Op.bytesLess a.toList b.toList || a.toList == b.toList)))
    | .geq => some (.bool (!(Op.bytesLess a.toList b.toList)))
    | _ => none
  | _, _ => none
def toV : PV → Value
  | .int k n => .int k n
  | .bool b => .bool b
  | .str s => .string s
  | _ => undef
theorem run_absBin {op : BinOp} {x y r : PV} (t : TypeId) (h : absBin op x y = some r) (w : World) : (binOp op t (toV x) (toV y)).run P w = .ok (toV r) w := by
  unfold absBin at h
  split at h
  case h_1 k a k' b =>
    cases op <;> simp only at h <;> (try (split at h)) <;> (try (split at h)) <;> first
      | (cases h; done)
      | (rename_i c; simp only [Option.some.injEq] at h; subst h; simp [toV, binOp, Op.shift, c]; done)
      | (simp_all [toV, binOp, Op.intArith, Op.intCmp, Op.intDiv, Op.intBits, Op.shift] <;> (subst h; simp [toV]); done)
      | (simp_all [toV, binOp, Op.intArith, Op.intCmp, Op.intDiv, Op.intBits, Op.shift]; done)
  case h_2 a b =>
    cases op <;> simp only at h <;> (try (split at h)) <;> first
      | (cases h; done)
      | (rename_i c; simp only [Option.some.injEq] at h; subst h; simp only [toV, binOp, Op.stringOp]; rw [if_neg c]; rfl)
      | (simp only [Option.some.injEq] at h; subst h; rfl)
  case h_3 => cases h
end Go.Eng
