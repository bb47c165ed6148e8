/- ItemParts, part 17: GNormA. -/
import Derived.Lib.SliceRun
import Derived.Lib.Strings
import Derived.Laws.StructEq
import Derived.OrdersHeld
import Derived.Deep.RegionHeld3
import Derived.Laws.BitsLemmas
import Derived.RowKit
import Derived.Below
import Derived.Deep.Draws
import Derived.Deep.AppendLies
import Derived.Maps.AppendAt
import Derived.OwnWalk
import Derived.Laws.BytesArg
import Derived.Laws.MakeOwn
import Derived.Laws.OwnMore
import Derived.Deep.OwnRows
import Derived.Tactics
import Derived.Lib.ConvBytes
import Derived.Laws.Slices
import Derived.WalkKit
import Derived.KernelRfl
import Derived.RowKit3
import Derived.Deep.LoopGhost
import Derived.Deep.QuietTactic
import Derived.BigQuiet
import Derived.WideLaws
import Derived.Deep.DeepCutAuto
import Derived.Deep.CutBlock
import Derived.Laws.Rows
import Derived.Lib.AppendStr
import Derived.ArgAppend
import Derived.Laws.IdiomCopy
import Derived.Test.YtciiodbkhilkmaaProg
import Derived.MapKept
import Derived.Shelf.Abstract
import Derived.Test.YtciiodbkhilkmaaQItemParts0
import Derived.Test.YtciiodbkhilkmaaQItemParts1
import Derived.Test.YtciiodbkhilkmaaQItemParts2
import Derived.Test.YtciiodbkhilkmaaQItemParts4
import Derived.Test.YtciiodbkhilkmaaQItemParts5
import Derived.Test.YtciiodbkhilkmaaQItemParts7
import Derived.Test.YtciiodbkhilkmaaQItemParts8
import Derived.Test.YtciiodbkhilkmaaQItemParts11
import Derived.Test.YtciiodbkhilkmaaQItemParts12
import Derived.Test.YtciiodbkhilkmaaQItemParts14
import Derived.Test.YtciiodbkhilkmaaQItemParts15
import Derived.Test.YtciiodbkhilkmaaQItemParts16
namespace Go.Proofs.Ytciiodbkhilkmaa.F
set_option linter.unusedVariables false
set_option linter.unusedSimpArgs false
open Go.RowKit Go.Proofs.YtciiodbkhilkmaaW.PrintWords Go.Proofs.YtciiodbkhilkmaaW.PrintLast Go.Proofs.YtciiodbkhilkmaaW.PrintMore
def stepN (seen : List S24) (x : S26) : Bool × List S24 := (seen.any (dotEq x.f5), seeD seen x.f5)
def InvN (q r : Nat) (seen : List S24) (W : World) : Prop := Seen r seen W ∧ W.cell? ⟨q, 0, none⟩ = some (.map (some r))
theorem Seen.goes {r : Nat} {seen : List S24} {W W' : World} {S : Nat → Prop} (h : Seen r seen W) (hg : Goes W W' S) (hn : ¬ S r) : Seen r seen W' := by
  obtain ⟨es, clock, hb, hes⟩ := h
  exact ⟨es, clock, blk_kept hb hg.kept hn, hes⟩
theorem normS (q r : Nat) (hqr : q ≠ r) : CallsS 77 #[.pointer (some ⟨q, 0, none⟩)] encItem stepN (InvN q r) (fun k => k = r) := by
  intro seen W x hI
  obtain ⟨hs, hc⟩ := hI
  have hlt := World.block_lt_of_cell? W _ hc
  have hne : q ≠ W.heap.size := Nat.ne_of_lt hlt
  obtain ⟨es, clock, hb, _⟩ := hs
  have hrl := blk_lt hb
  have hs1 : Seen r seen (W.alloc (.cells #[.string x.f0, .string x.f1, .int .i64 x.f2, .string x.f3, .int .i64 x.f4, .int .i64 x.f5.f0, .int .i64 x.f5.f1, .int .i64 x.f5.f2] 26)) := Seen.goes ⟨es, clock, hb, by assumption⟩ ((Goes.refl W (fun _ => False)).alloc _) (fun h => h)
  have hl := lookup_dot r seen x.f5 _ hs1
  obtain ⟨w2, hu, hs2, hg2⟩ := update_dot r seen x.f5 _ hs1
  unfold dotV at hl hu
  have hg : Goes W w2 (fun k => k = r) := ((Goes.refl _ _).alloc _).trans hg2
  have hI2 := Aside0.mk (And.intro (show InvN q r (seeD seen x.f5) w2 from ⟨hs2, hg.cell hc hqr⟩) hg)
  show Calls Try.prog 77 #[.agg #[.string x.f0, .string x.f1, .int .i64 x.f2, .string x.f3, .int .i64 x.f4, .int .i64 x.f5.f0, .int .i64 x.f5.f1, .int .i64 x.f5.f2], .pointer (some ⟨q, 0, none⟩)] W fun e w' => e = .returned (.bool (seen.any (dotEq x.f5))) ∧ InvN q r (seeD seen x.f5) w' ∧ Goes W w' (fun k => k = r)
  clear hs1 hs2 hg2 hg
  generalize seen.any (dotEq x.f5) = b at hl ⊢
  go_enter Try.func77, Try.ntmps77
  go_wp2
  go_ret
  exact ⟨rfl, hI2.out⟩
end Go.Proofs.Ytciiodbkhilkmaa.F
