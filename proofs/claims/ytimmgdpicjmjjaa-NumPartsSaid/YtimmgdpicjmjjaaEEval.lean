/- The engine, part 14: walking a region operation by operation. -/
import Derived.Test.YtimmgdpicjmjjaaEEnv
namespace Go.Eng
open Go.RowKit
set_option linter.unusedVariables false
set_option linter.unusedSimpArgs false
variable {σ σ' σ1 : St} {P : Program} {E : Env}
def getS : List AV → Nat → AV
  | [], _ => .any
  | v :: _, 0 => v
  | _ :: l, n + 1 => getS l n
def setS : List AV → Nat → AV → List AV
  | [], _, _ => []
  | _ :: l, 0, v => v :: l
  | a :: l, n + 1, v => a :: setS l n v
theorem getS_eq : ∀ (l : List AV) (t : Nat), l.getD t .any = getS l t
  | [], _ => rfl
  | v :: l, 0 => rfl
  | v :: l, n + 1 => by rw [List.getD_cons_succ, getS, getS_eq l n]
theorem setS_eq : ∀ (l : List AV) (t : Nat) (v : AV), l.set t v = setS l t v
  | [], _, _ => rfl
  | a :: l, 0, v => rfl
  | a :: l, n + 1, v => by rw [List.set_cons_succ, setS, setS_eq l n v]
theorem slot_mk (l : List AV) (o : List (Nat × Nat × Option AObj)) (t : Nat) : St.slot ⟨l, o⟩ t = getS l t := getS_eq l t
theorem app_some (l : List AV) (o : List (Nat × Nat × Option AObj)) (d : Nat) (v : AV) (us : List (Nat × Nat × Option AObj)) : St.app ⟨l, o⟩ (some d) ⟨v, us⟩ = ⟨setS l d v, us.foldl (fun l u => lay l u.1 u.2) o⟩ := by
  unfold St.app St.lays St.put
  dsimp only
  rw [setS_eq]
theorem app_none (l : List AV) (o : List (Nat × Nat × Option AObj)) (v : AV) (us : List (Nat × Nat × Option AObj)) : St.app ⟨l, o⟩ none ⟨v, us⟩ = ⟨l, us.foldl (fun l u => lay l u.1 u.2) o⟩ := rfl
theorem ob_mk (l : List AV) (o : List (Nat × Nat × Option AObj)) (k : Nat) : St.ob ⟨l, o⟩ k = look o k := rfl
attribute [simp] absCall argPAs argPA rtRM r1sRM r1RM rasRM raRM atPV absConv absIndex absSlice opndInt optInt absBuildSlice partsRM atPVs absAppend srcRM absMin absExtract absEqB appLim absG absOp pureE RM.map RM.val absMove absPick absUn opnd constV constAt AV.any absBinO absBin absLoad absStore absAlloc absBox absLen absFieldAddr absIndexAddr gone look lay v1cells sureAll sureAt retLoad rowLen rowE isVar envOf absO outOf getS setS slot_mk app_some app_none ob_mk entry paAV List.replicate keepSlots renAV renV1 renAt renO young St.norm
theorem w64 (n : Int) (h0 : -4611686018427387904 ≤ n) (h1 : n < 4611686018427387904) : IntKind.i64.wrap n = n := by simp [IntKind.wrap, IntKind.bits, IntKind.signed]; omega
@[simp] theorem nat_neg (i : Nat) : ((i : Int) < 0) = False := by simp
end Go.Eng
