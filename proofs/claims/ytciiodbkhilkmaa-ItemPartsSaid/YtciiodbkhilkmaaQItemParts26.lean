/- ItemParts, part 26: PZone. -/
import Derived.Lib.SliceRun
import Derived.Sort.Walk0
import Derived.Lib.Strings
import Derived.Laws.StructEq
import Derived.Shelf.SlGeneric
import Derived.Shelf.Sort.Plain
import Derived.Shelf.Slices.CompactS
import Derived.Shelf.Slices.In.SortNone
import Derived.Shelf.SlSortCmp.NoneTotal
import Derived.Ground.NamesProg
import Derived.Ground.SlsfProg
import Derived.Test.YtciiodbkhilkmaaProg
import Derived.OrdersHeld
import Derived.Deep.RegionHeld3
import Derived.Laws.BitsLemmas
import Derived.RowKit
import Derived.Below
import Derived.Deep.Draws
import Derived.Deep.AppendLies
import Derived.Maps.AppendAt
import Derived.OwnWalk
import Derived.Laws.BytesArg
import Derived.Laws.MakeOwn
import Derived.Laws.OwnMore
import Derived.Deep.OwnRows
import Derived.Tactics
import Derived.Lib.ConvBytes
import Derived.Laws.Slices
import Derived.WalkKit
import Derived.KernelRfl
import Derived.RowKit3
import Derived.Deep.LoopGhost
import Derived.Deep.QuietTactic
import Derived.BigQuiet
import Derived.WideLaws
import Derived.Deep.DeepCutAuto
import Derived.Deep.CutBlock
import Derived.Laws.Rows
import Derived.Lib.AppendStr
import Derived.ArgAppend
import Derived.Laws.IdiomCopy
import Derived.Shelf.Abstract
import Derived.Test.YtciiodbkhilkmaaQItemParts0
import Derived.Test.YtciiodbkhilkmaaQItemParts1
import Derived.Test.YtciiodbkhilkmaaQItemParts2
import Derived.Test.YtciiodbkhilkmaaQItemParts4
import Derived.Test.YtciiodbkhilkmaaQItemParts5
import Derived.Test.YtciiodbkhilkmaaQItemParts7
import Derived.Test.YtciiodbkhilkmaaQItemParts8
import Derived.Test.YtciiodbkhilkmaaQItemParts9
import Derived.Test.YtciiodbkhilkmaaQItemParts10
import Derived.Test.YtciiodbkhilkmaaQItemParts11
import Derived.Test.YtciiodbkhilkmaaQItemParts12
import Derived.Test.YtciiodbkhilkmaaQItemParts14
import Derived.Test.YtciiodbkhilkmaaQItemParts19
import Derived.Test.YtciiodbkhilkmaaQItemParts20
import Derived.Test.YtciiodbkhilkmaaQItemParts22
import Derived.Test.YtciiodbkhilkmaaQItemParts23
import Derived.Test.YtciiodbkhilkmaaQItemParts24
import Derived.Test.YtciiodbkhilkmaaQItemParts25
namespace Go.Proofs.Ytciiodbkhilkmaa.F
set_option linter.unusedVariables false
set_option linter.unusedSimpArgs false
open Go.RowKit Go.Proofs.YtciiodbkhilkmaaW.PrintWords Go.Proofs.YtciiodbkhilkmaaW.PrintLast Go.Proofs.YtciiodbkhilkmaaW.PrintMore
def shortB (l : List ByteArray) : Bool := decide (l.length ≤ 60) && l.all fun x => decide (x.size ≤ 200)
theorem short_l0 (l : List ByteArray) (hl : l.length ≤ 60) : ∀ (n i : Nat), l.length = i + n → Ev (fun k => butteryref08_Short.l0 k l (i : Int)) ((l.drop i).all fun x => decide (x.size ≤ 200))
  | 0, i, h => Ev.succ (by
    simp only [butteryref08_Short.l0]
    exact Ev.neg (by omega) (Ev.eq (Ev.const _) (by rw [List.drop_of_length_le (by omega)]; rfl)))
  | n + 1, i, h => Ev.succ (by
    simp only [butteryref08_Short.l0]
    have hi : i < l.length := by omega
    refine Ev.pos (by omega) (Ev.pos (by omega) ?_)
    rw [rdOf_get _ _ _ hi, wrap_add i (by omega), List.drop_eq_getElem_cons hi, List.all_cons]
    by_cases c : l[i].size ≤ 200
    · exact Ev.neg (by omega) (Ev.eq (short_l0 l hl n (i + 1) (by omega)) (by simp [c]))
    · exact Ev.pos (by omega) (Ev.eq (Ev.const _) (by simp [c])))
theorem short_ev (l : List ByteArray) : Ev (fun k => butteryref08_Short.f k l) (shortB l) := by
  unfold butteryref08_Short.f shortB
  by_cases c : l.length ≤ 60
  · exact Ev.neg (by omega) (Ev.eq (short_l0 l c l.length 0 (by omega)) (by simp [c]))
  · exact Ev.pos (by omega) (Ev.eq (Ev.const _) (by simp [c]))
def pcI (c : Nat) : Bool := decide (97 ≤ c ∧ c ≤ 122) || decide (48 ≤ c ∧ c ≤ 57) || c == 47
def pfx (p : ByteArray) : Bool := decide (p.size ≤ 16) && (bl p).all fun c => pcI c.toNat
theorem prefix_l0 (p : ByteArray) (hp : p.size ≤ 16) : ∀ (n i : Nat), p.size = i + n → Ev (fun k => zone_prefix.l0 k p (p.size : Int) (i : Int)) (((bl p).drop i).all fun c => pcI c.toNat)
  | 0, i, h => Ev.succ (by
    have := bl_len p
    simp only [zone_prefix.l0]
    exact Ev.neg (by omega) (Ev.eq (Ev.const _) (by rw [List.drop_of_length_le (by omega)]; rfl)))
  | n + 1, i, h => Ev.succ (by
    simp only [zone_prefix.l0]
    have hi : i < (bl p).length := by rw [bl_len]; omega
    refine Ev.pos (by omega) (Ev.pos (by omega) (Ev.pos (by omega) ?_))
    rw [bt_get p i hi, wrap_add i (by omega), List.drop_eq_getElem_cons hi, List.all_cons]
    have ih := prefix_l0 p hp n (i + 1) (by omega)
    generalize (bl p)[i].toNat = c at ih ⊢
    have yes : pcI c = true → Ev (fun k => zone_prefix.l0 k p (p.size : Int) ((i + 1 : Nat) : Int)) (pcI c && ((bl p).drop (i + 1)).all fun c => pcI c.toNat) := fun h => Ev.eq ih (by rw [h, Bool.true_and])
    have no : pcI c = false → Ev (fun _ => some false) (pcI c && ((bl p).drop (i + 1)).all fun c => pcI c.toNat) := fun h => Ev.eq (Ev.const _) (by rw [h, Bool.false_and])
    by_cases c1 : c < 97
    · refine Ev.pos (by omega) ?_
      by_cases c2 : c < 48
      · refine Ev.pos (by omega) ?_
        by_cases c3 : c = 47
        · exact Ev.pos (by omega) (yes (by simp [pcI, c3]))
        · exact Ev.neg (by omega) (no (by simp [pcI, c3]; omega))
      · refine Ev.neg (by omega) ?_
        by_cases c3 : c > 57
        · refine Ev.pos (by omega) (Ev.neg (by omega) (no (by simp [pcI]; omega)))
        · exact Ev.neg (by omega) (yes (by simp [pcI]; omega))
    · refine Ev.neg (by omega) ?_
      by_cases c2 : c > 122
      · exact Ev.pos (by omega) (Ev.neg (by omega) (Ev.pos (by omega) (Ev.neg (by omega) (no (by simp [pcI]; omega)))))
      · exact Ev.neg (by omega) (yes (by simp [pcI]; omega)))
theorem prefix_ev (p : ByteArray) : Ev (fun k => zone_prefix.f k p) (pfx p) := by
  unfold zone_prefix.f pfx
  by_cases c : p.size ≤ 16
  · exact Ev.neg (by omega) (Ev.eq (prefix_l0 p c p.size 0 (by omega)) (by simp [c]))
  · exact Ev.pos (by omega) (Ev.eq (Ev.const _) (by simp [c]))
end Go.Proofs.Ytciiodbkhilkmaa.F
