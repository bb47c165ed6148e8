/- ViewMore, part 36: GDelB. -/
import Derived.Lib.SliceRun
import Derived.Test.YtciiodbkhilkmaaProg
import Derived.Below
import Derived.Deep.Draws
import Derived.Deep.AppendLies
import Derived.Maps.AppendAt
import Derived.OwnWalk
import Derived.Laws.BytesArg
import Derived.Laws.MakeOwn
import Derived.Laws.OwnMore
import Derived.Deep.OwnRows
import Derived.Tactics
import Derived.Lib.ConvBytes
import Derived.Laws.Slices
import Derived.WalkKit
import Derived.KernelRfl
import Derived.RowKit3
import Derived.Deep.LoopGhost
import Derived.Deep.QuietTactic
import Derived.BigQuiet
import Derived.WideLaws
import Derived.Deep.DeepCutAuto
import Derived.Deep.CutBlock
import Derived.Deep.RegionHeld3
import Derived.Laws.Rows
import Derived.Lib.AppendStr
import Derived.ArgAppend
import Derived.Laws.IdiomCopy
import Derived.OrdersHeld
import Derived.Laws.BitsLemmas
import Derived.RowKit
import Derived.Shelf.Abstract
import Derived.Laws.StructEq
import Derived.Test.YtciiodbkhilkmaaQViewMore0
import Derived.Test.YtciiodbkhilkmaaQViewMore21
import Derived.Test.YtciiodbkhilkmaaQViewMore22
import Derived.Test.YtciiodbkhilkmaaQViewMore23
import Derived.Test.YtciiodbkhilkmaaQViewMore25
namespace Go.Proofs.Ytciiodbkhilkmaa.F
set_option linter.unusedVariables false
set_option linter.unusedSimpArgs false
open Go.RowKit Go.Proofs.YtciiodbkhilkmaaW.PrintWords Go.Proofs.YtciiodbkhilkmaaW.PrintLast Go.Proofs.YtciiodbkhilkmaaW.PrintMore
section
variable {α σ : Type}
def keepS (step : σ → α → Bool × σ) : σ → List α → List α × σ
  | s, [] => ([], s)
  | s, x :: l => if (step s x).1 = true then keepS step (step s x).2 l else (x :: (keepS step (step s x).2 l).1, (keepS step (step s x).2 l).2)
theorem keepS_snoc (step : σ → α → Bool × σ) (x : α) : ∀ (l : List α) (s : σ), keepS step s (l ++ [x]) =
    (if (step (keepS step s l).2 x).1 = true then (keepS step s l).1 else (keepS step s l).1 ++ [x], (step (keepS step s l).2 x).2)
  | [], s => by
    show keepS step s [x] = _
    unfold keepS
    cases (step s x).1 <;> simp [keepS]
  | y :: l, s => by
    show keepS step s (y :: (l ++ [x])) = _
    unfold keepS
    cases h : (step s y).1
    · simp only [Bool.false_eq_true, if_false, keepS_snoc step x l]
      cases h2 : (step (keepS step (step s y).2 l).2 x).1 <;> simp
    · simp only [if_true, keepS_snoc step x l]
end
end Go.Proofs.Ytciiodbkhilkmaa.F
