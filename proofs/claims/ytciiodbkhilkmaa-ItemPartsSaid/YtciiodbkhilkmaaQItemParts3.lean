/- ItemParts, part 3: GCmp. -/
import Derived.OrdersHeld
import Derived.Deep.RegionHeld3
import Derived.Laws.BitsLemmas
import Derived.RowKit
import Derived.Test.YtciiodbkhilkmaaProg
import Derived.WalkKit
import Derived.Below
import Derived.Deep.Draws
import Derived.Deep.AppendLies
import Derived.Maps.AppendAt
import Derived.OwnWalk
import Derived.Laws.BytesArg
import Derived.Laws.MakeOwn
import Derived.Laws.OwnMore
import Derived.Deep.OwnRows
import Derived.Tactics
import Derived.Lib.ConvBytes
import Derived.Laws.Slices
import Derived.KernelRfl
import Derived.RowKit3
import Derived.Deep.LoopGhost
import Derived.Deep.QuietTactic
import Derived.BigQuiet
import Derived.WideLaws
import Derived.Deep.DeepCutAuto
import Derived.Deep.CutBlock
import Derived.Laws.Rows
import Derived.Lib.AppendStr
import Derived.ArgAppend
import Derived.Laws.IdiomCopy
import Derived.Laws.StructEq
import Derived.Test.YtciiodbkhilkmaaQItemParts0
import Derived.Test.YtciiodbkhilkmaaQItemParts1
import Derived.Test.YtciiodbkhilkmaaQItemParts2
namespace Go.Proofs.Ytciiodbkhilkmaa.F
set_option linter.unusedVariables false
set_option linter.unusedSimpArgs false
open Go.RowKit Go.Proofs.YtciiodbkhilkmaaW.PrintWords Go.Proofs.YtciiodbkhilkmaaW.PrintLast Go.Proofs.YtciiodbkhilkmaaW.PrintMore
def cmpB (a b : ByteArray) : Int := if Op.bytesLess a.toList b.toList = true then -1 else if Op.bytesLess b.toList a.toList = true then 1 else 0
def cmpZ (a b : Int) : Int := if a < b then -1 else if b < a then 1 else 0
theorem isNaN_str (a : ByteArray) (w : World) : Calls Try.prog 115 #[.string a] w fun e w' => e = .returned (.bool false) ∧ w = w' := by
  go_enter Try.func115, Try.ntmps115
  go_wp2
  go_ret
  exact ⟨by simp, rfl⟩
theorem isNaN_int (a : Int) (w : World) : Calls Try.prog 116 #[.int .i64 a] w fun e w' => e = .returned (.bool false) ∧ w = w' := by
  go_enter Try.func116, Try.ntmps116
  go_wp2
  go_ret
  exact ⟨by simp, rfl⟩
theorem isNaN_int64 (a : Int) (w : World) : Calls Try.prog 117 #[.int .i64 a] w fun e w' => e = .returned (.bool false) ∧ w = w' := by
  go_enter Try.func117, Try.ntmps117
  go_wp2
  go_ret
  exact ⟨by simp, rfl⟩
theorem cmp_str (a b : ByteArray) (w : World) : Calls Try.prog 98 #[.string a, .string b] w fun e w' => e = .returned (.int .i64 (cmpB a b)) ∧ w = w' := by
  unfold cmpB
  cases h1 : Op.bytesLess a.toList b.toList <;> cases h2 : Op.bytesLess b.toList a.toList
  all_goals
    go_enter Try.func98, Try.ntmps98
    go_wp2_with (go_at_call 115; refine (isNaN_str _ _).mono ?_; rintro e w' ⟨rfl, rfl⟩)
    go_ret
    exact ⟨by simp, rfl⟩
theorem cmp_int (a b : Int) (w : World) : Calls Try.prog 99 #[.int .i64 a, .int .i64 b] w fun e w' => e = .returned (.int .i64 (cmpZ a b)) ∧ w = w' := by
  have hd : (a < b ∧ cmpZ a b = -1) ∨ (¬ a < b ∧ b < a ∧ cmpZ a b = 1) ∨ (¬ a < b ∧ ¬ b < a ∧ cmpZ a b = 0) := by unfold cmpZ; split <;> (try split) <;> omega
  rcases hd with ⟨h1, h3⟩ | ⟨h1, h2, h3⟩ | ⟨h1, h2, h3⟩
  all_goals
    rw [h3]
    clear h3
    go_enter Try.func99, Try.ntmps99
    go_wp2_with (go_at_call 116; refine (isNaN_int _ _).mono ?_; rintro e w' ⟨rfl, rfl⟩)
    go_ret
    exact ⟨rfl, rfl⟩
theorem cmp_int64 (a b : Int) (w : World) : Calls Try.prog 100 #[.int .i64 a, .int .i64 b] w fun e w' => e = .returned (.int .i64 (cmpZ a b)) ∧ w = w' := by
  have hd : (a < b ∧ cmpZ a b = -1) ∨ (¬ a < b ∧ b < a ∧ cmpZ a b = 1) ∨ (¬ a < b ∧ ¬ b < a ∧ cmpZ a b = 0) := by unfold cmpZ; split <;> (try split) <;> omega
  rcases hd with ⟨h1, h3⟩ | ⟨h1, h2, h3⟩ | ⟨h1, h2, h3⟩
  all_goals
    rw [h3]
    clear h3
    go_enter Try.func100, Try.ntmps100
    go_wp2_with (go_at_call 117; refine (isNaN_int64 _ _).mono ?_; rintro e w' ⟨rfl, rfl⟩)
    go_ret
    exact ⟨rfl, rfl⟩
end Go.Proofs.Ytciiodbkhilkmaa.F
