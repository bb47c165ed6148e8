/- ViewMore, part 25: GDelA. -/
import Derived.Test.YtciiodbkhilkmaaProg
import Derived.Below
import Derived.Deep.Draws
import Derived.Deep.AppendLies
import Derived.Maps.AppendAt
import Derived.OwnWalk
import Derived.Laws.BytesArg
import Derived.Laws.MakeOwn
import Derived.Laws.OwnMore
import Derived.Deep.OwnRows
import Derived.Tactics
import Derived.Lib.ConvBytes
import Derived.Laws.Slices
import Derived.WalkKit
import Derived.KernelRfl
import Derived.RowKit3
import Derived.Deep.LoopGhost
import Derived.Deep.QuietTactic
import Derived.BigQuiet
import Derived.WideLaws
import Derived.Deep.DeepCutAuto
import Derived.Deep.CutBlock
import Derived.Deep.RegionHeld3
import Derived.Laws.Rows
import Derived.Lib.AppendStr
import Derived.ArgAppend
import Derived.Laws.IdiomCopy
import Derived.OrdersHeld
import Derived.Laws.BitsLemmas
import Derived.RowKit
import Derived.Shelf.Abstract
import Derived.Laws.StructEq
import Derived.Test.YtciiodbkhilkmaaQViewMore0
import Derived.Test.YtciiodbkhilkmaaQViewMore21
import Derived.Test.YtciiodbkhilkmaaQViewMore22
import Derived.Test.YtciiodbkhilkmaaQViewMore23
namespace Go.Proofs.Ytciiodbkhilkmaa.F
set_option linter.unusedVariables false
set_option linter.unusedSimpArgs false
open Go.RowKit Go.Proofs.YtciiodbkhilkmaaW.PrintWords Go.Proofs.YtciiodbkhilkmaaW.PrintLast Go.Proofs.YtciiodbkhilkmaaW.PrintMore
structure Goes (w w' : World) (S : Nat → Prop) : Prop where
  kept : Kept w w' S
  rest : RowKit.Below 0 w w'
section
variable {w w1 w2 : World} {S S' : Nat → Prop}
theorem Goes.refl (w : World) (S : Nat → Prop) : Goes w w S := ⟨Kept.refl _ _, Below.refl _ _⟩
theorem Goes.of_below (h : Below w.heap.size w w1) (S : Nat → Prop) : Goes w w1 S := ⟨Kept.of_below h S, h.mono (Nat.zero_le _)⟩
theorem Goes.then_ (h : Goes w w1 S) (k : Goes w1 w2 S') (hs : ∀ k, S' k → S k ∨ w.heap.size ≤ k) : Goes w w2 S := ⟨h.kept.then_ k.kept hs, h.rest.trans k.rest⟩
theorem Goes.trans (h : Goes w w1 S) (k : Goes w1 w2 S) : Goes w w2 S := h.then_ k fun _ h => .inl h
theorem Goes.mono (h : Goes w w1 S) (hs : ∀ k, S k → S' k) : Goes w w1 S' := ⟨h.kept.mono hs, h.rest⟩
theorem Goes.alloc (h : Goes w w1 S) (o : Obj) : Goes w (w1.alloc o) S := h.then_ (S' := fun _ => False) (Goes.of_below ((Below.refl _ w1).alloc (Nat.le_refl _) o) _) fun _ h => h.elim
theorem Goes.grown {row : Option Nat} (h : Goes w w1 S) (hg : w1.grownBy w2 row) (hr : ∀ k, row = some k → S k ∨ w.heap.size ≤ k) : Goes w w2 S :=
  ⟨Kept.of_grown hg h.kept hr, h.rest.trans ⟨hg.os, hg.tape, hg.output, hg.size, fun _ hk => absurd hk (Nat.not_lt_zero _)⟩⟩
theorem Goes.below {B : Nat} {w0 : World} (h : Goes w w1 S) (hb : Below B w0 w) (hB : B ≤ w.heap.size) (hS : ∀ k, S k → B ≤ k) : Below B w0 w1 :=
  hb.trans ⟨h.rest.os, h.rest.tape, h.rest.output, h.rest.size, fun k hk => h.kept.2 k (Nat.lt_of_lt_of_le hk hB) fun hs => by have := hS k hs; omega⟩
theorem Goes.cell {a : Addr} {v : Value} (h : Goes w w1 S) (hc : w.cell? a = some v) (hn : ¬ S a.block) : w1.cell? a = some v := cell_kept hc h.kept hn
end
section
variable {α σ : Type}
def Runs (step : σ → α → Bool × σ) : σ → List α → σ → Prop
  | s, [], t => s = t
  | s, x :: a, t => (step s x).1 = false ∧ Runs step (step s x).2 a t
theorem Runs.snoc {step : σ → α → Bool × σ} : ∀ {s : σ} {a : List α} {t : σ} {x : α}, Runs step s a t → (step t x).1 = false → Runs step s (a ++ [x]) (step t x).2
  | s, [], t, x, h, hx => by
    have h : s = t := h
    subst h
    exact ⟨hx, rfl⟩
  | s, y :: a, t, x, h, hx => ⟨h.1, Runs.snoc h.2 hx⟩
end
end Go.Proofs.Ytciiodbkhilkmaa.F
