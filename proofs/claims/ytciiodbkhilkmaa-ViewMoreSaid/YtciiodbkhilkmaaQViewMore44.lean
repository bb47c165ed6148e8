/- ViewMore, part 44: GDelS. -/
import Derived.Lib.SliceRun
import Derived.Test.YtciiodbkhilkmaaProg
import Derived.Below
import Derived.Deep.Draws
import Derived.Deep.AppendLies
import Derived.Maps.AppendAt
import Derived.OwnWalk
import Derived.Laws.BytesArg
import Derived.Laws.MakeOwn
import Derived.Laws.OwnMore
import Derived.Deep.OwnRows
import Derived.Tactics
import Derived.Lib.ConvBytes
import Derived.Laws.Slices
import Derived.WalkKit
import Derived.KernelRfl
import Derived.RowKit3
import Derived.Deep.LoopGhost
import Derived.Deep.QuietTactic
import Derived.BigQuiet
import Derived.WideLaws
import Derived.Deep.DeepCutAuto
import Derived.Deep.CutBlock
import Derived.Deep.RegionHeld3
import Derived.Laws.Rows
import Derived.Lib.AppendStr
import Derived.ArgAppend
import Derived.Laws.IdiomCopy
import Derived.OrdersHeld
import Derived.Laws.BitsLemmas
import Derived.RowKit
import Derived.Shelf.Abstract
import Derived.Laws.StructEq
import Derived.Test.YtciiodbkhilkmaaQViewMore0
import Derived.Test.YtciiodbkhilkmaaQViewMore21
import Derived.Test.YtciiodbkhilkmaaQViewMore22
import Derived.Test.YtciiodbkhilkmaaQViewMore23
import Derived.Test.YtciiodbkhilkmaaQViewMore25
import Derived.Test.YtciiodbkhilkmaaQViewMore36
import Derived.Test.YtciiodbkhilkmaaQViewMore37
namespace Go.Proofs.Ytciiodbkhilkmaa.F
set_option linter.unusedVariables false
set_option linter.unusedSimpArgs false
open Go.RowKit Go.Proofs.YtciiodbkhilkmaaW.PrintWords Go.Proofs.YtciiodbkhilkmaaW.PrintLast Go.Proofs.YtciiodbkhilkmaaW.PrintMore
structure DelInvs {σ : Type} (step : σ → ByteArray → Bool × σ) (Inv : σ → World → Prop) (S : Nat → Prop) (s0 : σ) (l : List ByteArray) (base g cap : Nat) (w : World) (i j : Nat) (s : σ) (xs : List ByteArray) (wr : World) : Prop where
  len : xs.length = l.length
  keep : xs.take i = (keepS step s0 (l.take j)).1
  ilen : (keepS step s0 (l.take j)).1.length = i
  st : s = (keepS step s0 (l.take j)).2
  rest : xs.drop j = l.drop j
  inv : Inv s wr
  goes : Goes w wr (fun k => S k ∨ k = g)
  own : Kd.R Kd.string 9 wr base (fun k => k = g) (.slice (some ⟨g, 0, none⟩) l.length cap) xs
theorem DelInvs.skip {σ : Type} {step : σ → ByteArray → Bool × σ} {Inv : σ → World → Prop} {S : Nat → Prop} {s0 : σ} {l : List ByteArray} {base g cap : Nat} {w wr w' : World} {i j : Nat} {s s' : σ} {xs : List ByteArray} {y : ByteArray}
    (h : DelInvs step Inv S s0 l base g cap w i j s xs wr) (hj : j < l.length) (hy : l[j] = y) (hs : step s y = (true, s')) (hi : Inv s' w') (hg : Goes wr w' S) (hS : ∀ k, S k → k ≠ g) : DelInvs step Inv S s0 l base g cap w i (j + 1) s' xs w' := by
  have e : keepS step s0 (l.take (j + 1)) = ((keepS step s0 (l.take j)).1, s') := by
    rw [List.take_succ_eq_append_getElem hj, keepS_snoc, hy, ← h.st, hs]; simp
  refine ⟨h.len, by rw [e]; exact h.keep, by rw [e]; exact h.ilen, by rw [e], ?_, hi, h.goes.trans (hg.mono fun _ h => .inl h), Kd.R_kept h.own hg.kept (fun k hk hs => hS k hs hk)⟩
  have h1 := congrArg (List.drop 1) h.rest
  rwa [List.drop_drop, List.drop_drop] at h1
theorem DelInvs.put {σ : Type} {step : σ → ByteArray → Bool × σ} {Inv : σ → World → Prop} {S : Nat → Prop} {s0 : σ} {l : List ByteArray} {base g cap : Nat} {w wr w' : World} {i j : Nat} {s s' : σ} {xs : List ByteArray} {y : ByteArray}
    (h : DelInvs step Inv S s0 l base g cap w i j s xs wr) (hj : j < l.length) (hij : i < j) (hy : l[j] = y) (hs : step s y = (false, s')) (hi : Inv s' w') (hg : Goes wr w' (fun k => S k ∨ k = g)) (ho : Kd.R Kd.string 9 w' base (fun k => k = g) (.slice (some ⟨g, 0, none⟩) l.length cap) (xs.set i y)) : DelInvs step Inv S s0 l base g cap w (i + 1) (j + 1) s' (xs.set i y) w' := by
  have e : keepS step s0 (l.take (j + 1)) = ((keepS step s0 (l.take j)).1 ++ [y], s') := by
    rw [List.take_succ_eq_append_getElem hj, keepS_snoc, hy, ← h.st, hs]; simp
  have hix : i < xs.length := by rw [h.len]; omega
  refine ⟨by rw [List.length_set]; exact h.len, ?_, by rw [e, List.length_append, h.ilen]; rfl, by rw [e], ?_, hi, h.goes.trans hg, ho⟩
  · rw [e, ← h.keep, List.take_succ_eq_append_getElem (by rw [List.length_set]; exact hix), List.getElem_set_self, List.take_set_of_le (Nat.le_refl _)]
  · have h1 := congrArg (List.drop 1) h.rest
    rw [List.drop_drop, List.drop_drop] at h1
    rw [List.drop_set_of_lt (by omega)]
    exact h1
end Go.Proofs.Ytciiodbkhilkmaa.F
