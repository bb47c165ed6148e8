/- ViewMore, part 32: RowI. -/
import Derived.Sort.Walk0
import Derived.Test.YtciiodbkhilkmaaRows
import Derived.Deep.Slices
import Derived.ProofKit
import Derived.ChangeArms
import Derived.Test.YtciiodbkhilkmaaProg
import Derived.Below
import Derived.Deep.Draws
import Derived.Deep.AppendLies
import Derived.Maps.AppendAt
import Derived.OwnWalk
import Derived.Laws.BytesArg
import Derived.Laws.MakeOwn
import Derived.Laws.OwnMore
import Derived.Deep.OwnRows
import Derived.Tactics
import Derived.Lib.ConvBytes
import Derived.Laws.Slices
import Derived.WalkKit
import Derived.KernelRfl
import Derived.RowKit3
import Derived.Deep.LoopGhost
import Derived.Deep.QuietTactic
import Derived.BigQuiet
import Derived.WideLaws
import Derived.Deep.DeepCutAuto
import Derived.Deep.CutBlock
import Derived.Deep.RegionHeld3
import Derived.Laws.Rows
import Derived.Lib.AppendStr
import Derived.ArgAppend
import Derived.Laws.IdiomCopy
import Derived.OrdersHeld
import Derived.Laws.BitsLemmas
import Derived.RowKit
import Derived.Shelf.SlGeneric
import Derived.Shelf.Sort.Plain
import Derived.Shelf.Slices.CompactS
import Derived.Shelf.Slices.In.SortNone
import Derived.Shelf.SlSortCmp.NoneTotal
import Derived.Ground.NamesProg
import Derived.Ground.SlsfProg
import Derived.Shelf.Abstract
import Derived.Lib.SliceRun
import Derived.Laws.StructEq
import Derived.Lib.Strings
import Derived.Test.YtciiodbkhilkmaaQViewMore0
import Derived.Test.YtciiodbkhilkmaaQViewMore21
import Derived.Test.YtciiodbkhilkmaaQViewMore22
import Derived.Test.YtciiodbkhilkmaaQViewMore23
import Derived.Test.YtciiodbkhilkmaaQViewMore24
import Derived.Test.YtciiodbkhilkmaaQViewMore25
import Derived.Test.YtciiodbkhilkmaaQViewMore26
import Derived.Test.YtciiodbkhilkmaaQViewMore27
import Derived.Test.YtciiodbkhilkmaaQViewMore28
import Derived.Test.YtciiodbkhilkmaaQViewMore29
import Derived.Test.YtciiodbkhilkmaaQViewMore30
import Derived.Test.YtciiodbkhilkmaaQViewMore31
namespace Go.Proofs.Ytciiodbkhilkmaa.F
set_option linter.unusedVariables false
set_option linter.unusedSimpArgs false
open Go.RowKit Go.ChangeShapes Go.WideShapes Go.Proofs.YtciiodbkhilkmaaW.PrintWords Go.Proofs.YtciiodbkhilkmaaW.PrintLast Go.Proofs.YtciiodbkhilkmaaW.PrintMore
theorem list3 {α : Type} : ∀ {l : List α}, l.length = 3 → ∃ a b c, l = [a, b, c]
  | [a, b, c], _ => ⟨a, b, c, rfl⟩
theorem list6 {α : Type} : ∀ {l : List α}, l.length = 6 → ∃ a b c d e f, l = [a, b, c, d, e, f]
  | [a, b, c, d, e, f], _ => ⟨a, b, c, d, e, f, rfl⟩
theorem list8 {α : Type} : ∀ {l : List α}, l.length = 8 → ∃ a b c d e f g h, l = [a, b, c, d, e, f, g, h]
  | [a, b, c, d, e, f, g, h], _ => ⟨a, b, c, d, e, f, g, h, rfl⟩
section
variable {H : Type} {enc : TypeId × Value → H} {w : World} {base : Nat} {spare : Nat → Bool} {held : Bool}
instance instRowDot : Inhabited S24 := ⟨⟨0, 0, 0⟩⟩
instance instRowItem : Inhabited S26 := ⟨⟨ByteArray.empty, ByteArray.empty, 0, ByteArray.empty, 0, default⟩⟩
theorem trod_strE {n : Nat} {cs : List Value} {y : DataW H × List MemPlace} (h : DataW.trod enc Try.prog w base spare held n 9 cs = some y) : ∃ s : ByteArray, cs = [.string s] := by
  obtain ⟨s, h, _⟩ := DataW.trod_string Try.underlying9 h
  exact ⟨s, h⟩
theorem trod_intE {n : Nat} {cs : List Value} {y : DataW H × List MemPlace} (h : DataW.trod enc Try.prog w base spare held n 3 cs = some y) : ∃ s : Int, cs = [.int .i64 s] ∧ I64 s := by
  obtain ⟨s, h, _, hw⟩ := DataW.trod_int Try.underlying3 h
  exact ⟨s, h, wf64 hw⟩
theorem trod_int64E {n : Nat} {cs : List Value} {y : DataW H × List MemPlace} (h : DataW.trod enc Try.prog w base spare held n 2 cs = some y) : ∃ s : Int, cs = [.int .i64 s] ∧ I64 s := by
  obtain ⟨s, h, _, hw⟩ := DataW.trod_int Try.underlying2 h
  exact ⟨s, h, wf64 hw⟩
theorem trod_dotE {n : Nat} {cs : List Value} {y : DataW H × List MemPlace} (h : DataW.trod enc Try.prog w base spare held n 24 cs = some y) : ∃ d : S24, cs = [.int .i64 d.f0, .int .i64 d.f1, .int .i64 d.f2] ∧ WfD d := by
  obtain ⟨xs, m, _, _, hl, hx, hf⟩ := DataW.trod_struct Try.underlying24 h
  have hc : Try.prog.cellsOf 24 = 3 := by kernel_rfl
  have c1 : Try.prog.cellsOf 3 = 1 := by kernel_rfl
  rw [hc] at hl
  have hx : xs.length = 3 := hx
  obtain ⟨v0, v1, v2, rfl⟩ := list3 hl
  obtain ⟨x0, x1, x2, rfl⟩ := list3 hx
  have f0 : DataW.trod enc Try.prog w base spare held m 3 (([v0, v1, v2].drop 0).take (Try.prog.cellsOf 3)) = some x0 := hf 0 _ rfl
  have f1 : DataW.trod enc Try.prog w base spare held m 3 (([v0, v1, v2].drop 1).take (Try.prog.cellsOf 3)) = some x1 := hf 1 _ rfl
  have f2 : DataW.trod enc Try.prog w base spare held m 3 (([v0, v1, v2].drop 2).take (Try.prog.cellsOf 3)) = some x2 := hf 2 _ rfl
  rw [c1] at f0 f1 f2
  obtain ⟨s0, e0, w0⟩ := trod_intE f0
  obtain ⟨s1, e1, w1⟩ := trod_intE f1
  obtain ⟨s2, e2, w2⟩ := trod_intE f2
  simp at e0 e1 e2
  subst e0 e1 e2
  exact ⟨⟨s0, s1, s2⟩, rfl, w0, w1, w2⟩
theorem trod_itemE {n : Nat} {cs : List Value} {y : DataW H × List MemPlace} (h : DataW.trod enc Try.prog w base spare held n 26 cs = some y) : ∃ x : S26, cs = [.string x.f0, .string x.f1, .int .i64 x.f2, .string x.f3, .int .i64 x.f4, .int .i64 x.f5.f0, .int .i64 x.f5.f1, .int .i64 x.f5.f2] ∧ WfI x := by
  obtain ⟨xs, m, _, _, hl, hx, hf⟩ := DataW.trod_struct Try.underlying26 h
  have hc : Try.prog.cellsOf 26 = 8 := by kernel_rfl
  have c1 : Try.prog.cellsOf 3 = 1 := by kernel_rfl
  have c2 : Try.prog.cellsOf 9 = 1 := by kernel_rfl
  have c3 : Try.prog.cellsOf 2 = 1 := by kernel_rfl
  have c4 : Try.prog.cellsOf 24 = 3 := by kernel_rfl
  rw [hc] at hl
  have hx : xs.length = 6 := hx
  obtain ⟨v0, v1, v2, v3, v4, v5, v6, v7, rfl⟩ := list8 hl
  obtain ⟨x0, x1, x2, x3, x4, x5, rfl⟩ := list6 hx
  have f0 : DataW.trod enc Try.prog w base spare held m 9 (([v0, v1, v2, v3, v4, v5, v6, v7].drop 0).take (Try.prog.cellsOf 9)) = some x0 := hf 0 _ rfl
  have f1 : DataW.trod enc Try.prog w base spare held m 9 (([v0, v1, v2, v3, v4, v5, v6, v7].drop 1).take (Try.prog.cellsOf 9)) = some x1 := hf 1 _ rfl
  have f2 : DataW.trod enc Try.prog w base spare held m 3 (([v0, v1, v2, v3, v4, v5, v6, v7].drop 2).take (Try.prog.cellsOf 3)) = some x2 := hf 2 _ rfl
  have f3 : DataW.trod enc Try.prog w base spare held m 9 (([v0, v1, v2, v3, v4, v5, v6, v7].drop 3).take (Try.prog.cellsOf 9)) = some x3 := hf 3 _ rfl
  have f4 : DataW.trod enc Try.prog w base spare held m 2 (([v0, v1, v2, v3, v4, v5, v6, v7].drop 4).take (Try.prog.cellsOf 2)) = some x4 := hf 4 _ rfl
  have f5 : DataW.trod enc Try.prog w base spare held m 24 (([v0, v1, v2, v3, v4, v5, v6, v7].drop 5).take (Try.prog.cellsOf 24)) = some x5 := hf 5 _ rfl
  rw [c2] at f0 f1 f3
  rw [c1] at f2
  rw [c3] at f4
  rw [c4] at f5
  obtain ⟨s0, e0⟩ := trod_strE f0
  obtain ⟨s1, e1⟩ := trod_strE f1
  obtain ⟨s2, e2, w2⟩ := trod_intE f2
  obtain ⟨s3, e3⟩ := trod_strE f3
  obtain ⟨s4, e4, w4⟩ := trod_int64E f4
  obtain ⟨s5, e5, w5⟩ := trod_dotE f5
  simp at e0 e1 e2 e3 e4 e5
  obtain ⟨e5, e6, e7⟩ := e5
  subst e0 e1 e2 e3 e4 e5 e6 e7
  exact ⟨⟨s0, s1, s2, s3, s4, s5⟩, rfl, w2, w4, w5⟩
theorem open_rowP {P : Program} {α : Type} [Inhabited α] (kd : Kd α) (Q : α → Prop) {t e : TypeId} {fuel : Nat} {a : Option Addr} {len cap : Nat} {x : DataW H × List MemPlace}
    (ht : P.underlying t = some (.slice e)) (hc : P.cellsOf e = kd.sz) (hel : ∀ n cs y, DataW.trod enc P w base spare held n e cs = some y → ∃ p, kd.K w p cs ∧ Q p)
    (h : DataW.trod enc P w base spare held fuel t [.slice a len cap] = some x) : ∃ l : List α, l.length = len ∧ len ≤ cap ∧ kd.C w a len l ∧ ∀ p ∈ l, Q p := by
  rcases Go.Deep.open_slice ht h with ⟨hcs, _⟩ | ⟨ad, len', cap', m, n, D, Pl, hcs, _, hl, hm, hmm, _, hx⟩
  · simp only [List.cons.injEq, Value.slice.injEq, and_true] at hcs
    obtain ⟨rfl, rfl, rfl⟩ := hcs
    exact ⟨[], rfl, Nat.le_refl _, Kd.C_nil kd w, by simp⟩
  · simp only [List.cons.injEq, Value.slice.injEq, and_true] at hcs
    obtain ⟨rfl, rfl, rfl⟩ := hcs
    have hlm : len ≤ m := by rw [hmm]; split <;> omega
    obtain ⟨f, hf⟩ := Go.Deep.choose_lt (α := α) (n := len) (p := fun i p => ∃ cs', w.cells? base (ad.add (i * P.cellsOf e)) (P.cellsOf e) = some cs' ∧ kd.K w p cs' ∧ Q p) (fun i hi => by
      obtain ⟨cs', h1, h2⟩ := hx i (by omega)
      obtain ⟨p, hp⟩ := hel _ _ _ h2
      exact ⟨p, cs', h1, hp⟩)
    refine ⟨(List.range len).map f, by simp, hl, ⟨by simp, by simp only [maxLen] at hm; omega, fun _ => ⟨ad, rfl, fun j p hj => ?_⟩⟩, fun p hp => ?_⟩
    · obtain ⟨hjl, rfl⟩ := List.getElem?_eq_some_iff.1 hj
      simp only [List.length_map, List.length_range] at hjl
      simp only [List.getElem_map, List.getElem_range]
      obtain ⟨cs', h1, h2, _⟩ := hf j hjl
      obtain ⟨_, hlen, hcell⟩ := World.cells?_some h1
      refine ⟨cs', kd.K_len h2, h2, fun i u hu => ?_⟩
      obtain ⟨hi, _⟩ := List.getElem?_eq_some_iff.1 hu
      have := hcell i (by omega)
      rw [Go.Deep.add_add, hc] at this
      rw [this, hu]
    · obtain ⟨j, hj, rfl⟩ := List.mem_map.1 hp
      obtain ⟨_, _, _, hq⟩ := hf j (List.mem_range.1 hj)
      exact hq
theorem open_items {fuel : Nat} {a : Option Addr} {len cap : Nat} {x : DataW H × List MemPlace}
    (h : DataW.trod enc Try.prog w base spare held fuel 22 [.slice a len cap] = some x) : ∃ l : List S26, l.length = len ∧ len ≤ cap ∧ Kd.C k26 w a len l ∧ ∀ x ∈ l, WfI x :=
  open_rowP k26 WfI Try.underlying22 (by kernel_rfl) (fun n cs y hy => by
    obtain ⟨p, rfl, hw⟩ := trod_itemE hy
    exact ⟨p, k26_mk w p, hw⟩) h
end
end Go.Proofs.Ytciiodbkhilkmaa.F
