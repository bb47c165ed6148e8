/- The engine, part 13: what is known of a program, read off it. -/
import Derived.Test.YtimmgdpicjmjjaaEWeak
namespace Go.Eng
open Go.RowKit
set_option linter.unusedVariables false
set_option linter.unusedSimpArgs false
def esOf (P : Program) : Nat → Nat → List Nat
  | 0, _ => []
  | n + 1, t => match P.underlying t with
    | some (.slice e) => [P.cellsOf e]
    | some (.struct F) => F.toList.flatMap fun f => esOf P n f.type
    | _ => List.replicate (P.cellsOf t) 0
def tyOf (P : Program) (t : Nat) : Option Ty :=
  match P.info? t, P.underlying t with
  | some i, some d => match i.zero with
    | some z => if z.cells.size = i.size ∧ z.cells.all (·.oneCell') = true then some {
        agg := d.isRow, size := i.size, bytes := i.bytes
        elem := match d with | .slice e => e | _ => 0
        fields := match d with | .struct F => F.toList.map fun f => (f.offset, f.type) | _ => []
        zero := z.cells.toList.map constAt
        es := esOf P 6 t
        str := match d with | .string => true | _ => false
        bool := match d with | .bool => true | _ => false
        int := match d with | .int k => some k | _ => none } else none
    | none => none
  | _, _ => none
theorem tyOf_ok {P : Program} (t : Nat) (ty : Ty) (h : tyOf P t = some ty) : TyOk P t ty := by
  unfold tyOf at h
  split at h
  case h_2 => cases h
  case h_1 i d hi hd =>
    split at h
    case h_2 => cases h
    case h_1 z hz =>
      split at h
      case isFalse => cases h
      case isTrue hc =>
        simp only [Option.some.injEq] at h
        subst h
        refine ⟨⟨i, z, hi, rfl, rfl, hz, rfl, hc.1, hc.2⟩, ⟨d, hd, rfl⟩, fun he => ?_, fun hs => ?_, fun hs => ?_, fun k hk => ?_, fun hf => ?_⟩
        · rw [hd]
          cases d <;> first | rfl | (exact absurd rfl he)
        · rw [hd]
          cases d <;> first | rfl | (simp at hs)
        · rw [hd]
          cases d <;> first | rfl | (simp at hs)
        · rw [hd]
          cases d <;> first | (simp at hk; done) | (simp at hk; subst hk; rfl)
        · cases d <;> first | (exact absurd rfl hf) | skip
          rename_i F
          refine ⟨F, hd, fun i q hq => ?_⟩
          obtain ⟨f, hf1, hf2⟩ := map_get hq
          rw [Array.getElem?_toList] at hf1
          exact ⟨f, hf1, by rw [← hf2], by rw [← hf2]⟩
def fnOf (P : Program) (f : FuncId) : Bool := match P.funcs[f]? with
  | some fn => !(fn.name == "runtime.NumGoroutine") && !fn.body.isNone
  | none => false
theorem fnOf_ok {P : Program} (f : FuncId) (h : fnOf P f = true) : FnOk P f := by
  unfold fnOf at h
  split at h
  case h_2 => cases h
  case h_1 fn hfn =>
    rw [Bool.and_eq_true] at h
    exact ⟨fn, hfn, by simpa using h.1, by simpa using h.2⟩
def envOf (P : Program) : Env := ⟨tyOf P, fnOf P⟩
theorem envOf_ok {P : Program} (h : P.follows .mixedOrders = true) : EnvOk P (envOf P) := ⟨tyOf_ok, fnOf_ok, h⟩
end Go.Eng
