/- ViewMore, part 50: F4. -/
import Derived.Test.YtciiodbkhilkmaaProg
import Derived.Below
import Derived.Deep.Draws
import Derived.Deep.AppendLies
import Derived.Maps.AppendAt
import Derived.OwnWalk
import Derived.Laws.BytesArg
import Derived.Laws.MakeOwn
import Derived.Laws.OwnMore
import Derived.Deep.OwnRows
import Derived.Tactics
import Derived.Lib.ConvBytes
import Derived.Laws.Slices
import Derived.WalkKit
import Derived.KernelRfl
import Derived.RowKit3
import Derived.Deep.LoopGhost
import Derived.Deep.QuietTactic
import Derived.BigQuiet
import Derived.WideLaws
import Derived.Deep.DeepCutAuto
import Derived.Deep.CutBlock
import Derived.Deep.RegionHeld3
import Derived.Laws.Rows
import Derived.Lib.AppendStr
import Derived.ArgAppend
import Derived.Laws.IdiomCopy
import Derived.OrdersHeld
import Derived.Laws.BitsLemmas
import Derived.RowKit
import Derived.Shelf.SlGeneric
import Derived.Shelf.Sort.Plain
import Derived.Shelf.Slices.CompactS
import Derived.Shelf.Slices.In.SortNone
import Derived.Shelf.SlSortCmp.NoneTotal
import Derived.Ground.NamesProg
import Derived.Ground.SlsfProg
import Derived.Shelf.Abstract
import Derived.Lib.SliceRun
import Derived.Laws.StructEq
import Derived.Lib.Strings
import Derived.Test.YtciiodbkhilkmaaQViewMore0
import Derived.Test.YtciiodbkhilkmaaQViewMore21
import Derived.Test.YtciiodbkhilkmaaQViewMore22
import Derived.Test.YtciiodbkhilkmaaQViewMore23
import Derived.Test.YtciiodbkhilkmaaQViewMore24
import Derived.Test.YtciiodbkhilkmaaQViewMore25
import Derived.Test.YtciiodbkhilkmaaQViewMore26
import Derived.Test.YtciiodbkhilkmaaQViewMore27
import Derived.Test.YtciiodbkhilkmaaQViewMore30
namespace Go.Proofs.Ytciiodbkhilkmaa.F
open Go.RowKit Go.Proofs.YtciiodbkhilkmaaW.PrintWords Go.Proofs.YtciiodbkhilkmaaW.PrintLast Go.Proofs.YtciiodbkhilkmaaW.PrintMore
attribute [local go_sem] max2_int min2_int max_two min_two max_three min_three max_four min_four
set_option linter.unusedVariables false
set_option linter.unusedSimpArgs false
mutual
def view_Field.l0 : Nat → ByteArray → ByteArray → List Int → List (S26) → Int → Int → List ByteArray → List ByteArray → Int → Bool → Option (List ByteArray × List ByteArray × Int × Bool)
  | 0, _, _, _, _, _, _, _, _, _, _ => none
  | k + 1, x1, x2, x8, x13, x14, x15, x104000, x104001, x104002, x104003 => if x15 < x14 then (if 0 ≤ x15 then (if x15 < (x13.length : Int) then (if ((rd_T26 x13 x15).f0).toList = x1.toList then (view_Field.j1 k x1 x2 x8 x13 x14 x15 (((rd_T26 x13 x15).f1).toList != x2.toList) x104000 x104001 x104002 x104003 ((rd_T26 x13 x15).f0) ((rd_T26 x13 x15).f1) ((rd_T26 x13 x15).f2) ((rd_T26 x13 x15).f3) ((rd_T26 x13 x15).f4) ((rd_T26 x13 x15).f5.f0) ((rd_T26 x13 x15).f5.f1) ((rd_T26 x13 x15).f5.f2)) else (view_Field.j1 k x1 x2 x8 x13 x14 x15 true x104000 x104001 x104002 x104003 ((rd_T26 x13 x15).f0) ((rd_T26 x13 x15).f1) ((rd_T26 x13 x15).f2) ((rd_T26 x13 x15).f3) ((rd_T26 x13 x15).f4) ((rd_T26 x13 x15).f5.f0) ((rd_T26 x13 x15).f5.f1) ((rd_T26 x13 x15).f5.f2))) else (none)) else (none)) else ((view_once.f x104000).bind fun t104 => ((view_once.f x104001).bind fun t107 => ((num_Total.f k x8).bind fun bt110 => (some (t104, t107, bt110.1, (bt110.2 != 0))))))
def view_Field.j1 : Nat → ByteArray → ByteArray → List Int → List (S26) → Int → Int → Bool → List ByteArray → List ByteArray → Int → Bool → ByteArray → ByteArray → Int → ByteArray → Int → Int → Int → Int → Option (List ByteArray × List ByteArray × Int × Bool)
  | 0, _, _, _, _, _, _, _, _, _, _, _, _, _, _, _, _, _, _, _ => none
  | k + 1, x1, x2, x8, x13, x14, x15, x28, x104000, x104001, x104002, x104003, x114000, x114001, x114002, x114003, x114004, x114005, x114006, x114007 => if x28 = true then (view_Field.l0 k x1 x2 x8 x13 x14 (wrap64 (x15 + 1)) x104000 x104001 x104002 x104003) else (if x114002 = 1 then (if x104000.length < 8796093022208 then (view_Field.l0 k x1 x2 x8 x13 x14 (wrap64 (x15 + 1)) (x104000 ++ [x114003]) x104001 x104002 x104003) else (none)) else (if x114002 = 2 then (if x104001.length < 8796093022208 then (view_Field.l0 k x1 x2 x8 x13 x14 (wrap64 (x15 + 1)) x104000 (x104001 ++ [x114003]) x104002 x104003) else (none)) else (if x114002 = 3 then (if x8.length < 17592186044416 then (view_Field.l0 k x1 x2 (x8 ++ [x114004]) x13 x14 (wrap64 (x15 + 1)) x104000 x104001 x104002 x104003) else (none)) else (view_Field.l0 k x1 x2 x8 x13 x14 (wrap64 (x15 + 1)) x104000 x104001 x104002 x104003))))
end
def view_Field.f (k : Nat) (l0 : List (S26)) (a1 : ByteArray) (a2 : ByteArray) : Option (List ByteArray × List ByteArray × Int × Bool) := view_Field.l0 k a1 a2 ([] : List Int) l0 (l0.length : Int) 0 ([] : List ByteArray) ([] : List ByteArray) 0 false
def view_Field.T15 : Bool × List (List Nat × List Nat) := (true, [([], []), ([0], [0]), ([1], [1]), ([], []), ([3], [3]), ([4, 2], [4]), ([0, 1, 2, 3, 4], []), ([6, 2, 5, 0, 1, 2, 3, 4], [2, 6]), ([0, 1, 2, 3, 4, 5, 6, 7], []), ([8, 5, 7, 0, 1, 2, 3, 4, 5, 6, 7], [5, 8])])
def view_Field.B15 : List Nat := [0, 1, 3, 0, 8, 31, 31, 127, 255, 511]
theorem view_Field.tab15 : rtab .any (opsOf Try.f18 15) = view_Field.T15 := by kernel_rfl
theorem view_Field.bits15 : waitsOk view_Field.T15.2 view_Field.B15 = true := by kernel_rfl
set_option maxHeartbeats 8000000 in
set_option maxRecDepth 100000 in
theorem view_Field.calls (k : Nat) (A0 : Option Addr) (c0 : Nat) (l0 : List (S26)) (a1 : ByteArray) (a2 : ByteArray) (r1 : List ByteArray) (r2 : List ByteArray) (r3 : Int) (r4 : Bool) (w : World) (hr0 : Kd.C k26 w A0 l0.length l0) (hc0 : l0.length ≤ c0) (h : view_Field.f k l0 a1 a2 = some (r1, r2, r3, r4)) :
    Calls Try.prog 18 #[.slice A0 l0.length c0, .string a1, .string a2] w fun e w' => ∃ v0_ v1_ : Value, e = .returned (.agg #[v0_, v1_, .int .i64 r3, .bool r4]) ∧ Kd.R Kd.string 9 w' w.heap.size (fun k_ => some k_ ≠ (v1_ : Value).ownBlock) v0_ r1 ∧ Kd.R Kd.string 9 w' w.heap.size (fun k_ => some k_ ≠ (v0_ : Value).ownBlock) v1_ r2 ∧ Below w.heap.size w w' := by
  have hu31 := Try.underlying31
  have hu26 := Try.underlying26
  have HR0 := Aside0.mk hr0
  have HC0 := Aside0.mk hc0
  clear hr0 hc0
  have HB := Aside0.mk (Below.refl w.heap.size w)
  have H : (view_Field.l0 k a1 a2 ([] : List Int) l0 (l0.length : Int) 0 ([] : List ByteArray) ([] : List ByteArray) 0 false) = some (r1, r2, r3, r4) := h
  clear h
  have H' := Aside0.mk H
  clear H
  go_enter Try.func18, Try.ntmps18
  go_wp2_with (first | ((with_reducible refine gate_dst (N := 6) rfl ?_); refine box_event ?hg (N := 6) ?hd (cs := #[.slice none 0 0, .slice none 0 0, .int .i64 0, .bool false]) (t := 31) ?hr ?_; (case hd => rfl); (case hg => rfl); (case hr => first | (go_simp; done) | (go_simp; rfl)); intro gb102 hg w4 hbox hb; have n0_ := Aside0.mk (below_step (by repeat (first | (with_reducible first | exact HB.out | apply below_alloc | apply pw_below_drewN | apply below_drew1) | exact HB.out)) hb); have n1_ := Aside0.mk (hbox); have n2_ := Aside0.mk ((by rw [hg]; exact (below_size (by repeat (first | (with_reducible first | exact HB.out | apply below_alloc | apply pw_below_drewN | apply below_drew1) | exact HB.out))) : w.heap.size ≤ gb102)); have n3_ := Aside0.mk ((by rw [hg]; exact (below_size (by repeat (first | (with_reducible first | exact HB.out | apply below_alloc | apply pw_below_drewN | apply below_drew1) | exact HB.out))) : w.heap.size ≤ gb102)); clear HB; have HB := n0_; have BK102 := n1_; have GW102 := n2_; have GE102 := n3_; clear n0_ n1_ n2_ n3_; clear hb hbox hg) | ((with_reducible refine gate_dst (N := 7) rfl ?_); refine box_event ?hg (N := 7) ?hd (cs := #[.slice none 0 0, .slice none 0 0, .int .i64 0, .bool false]) (t := 31) ?hr ?_; (case hd => rfl); (case hg => rfl); (case hr => first | (go_simp; done) | (go_simp; rfl)); intro gb103 hg w5 hbox hb; have n0_ := Aside0.mk (blk_below (g := gb102) (o := .cells #[.slice none 0 0, .slice none 0 0, .int .i64 0, .bool false] 31 (0, 0)) (by (with_reducible repeat (first | refine blk_drewN ?_ _ | refine blk_drew ?_ | refine blk_alloc ?_ _)); exact BK102.out) hb); have n1_ := Aside0.mk (below_step (by repeat (first | (with_reducible first | exact HB.out | apply below_alloc | apply pw_below_drewN | apply below_drew1 | refine below_set ?_ GE102.out) | exact HB.out)) hb); have n2_ := Aside0.mk (hbox); have n3_ := Aside0.mk ((by rw [hg]; exact (below_size (by repeat (first | (with_reducible first | exact HB.out | apply below_alloc | apply pw_below_drewN | apply below_drew1 | refine below_set ?_ GE102.out) | exact HB.out))) : w.heap.size ≤ gb103)); have n4_ := Aside0.mk ((by rw [hg]; exact (below_size (by repeat (first | (with_reducible first | exact HB.out | apply below_alloc | apply pw_below_drewN | apply below_drew1 | refine below_set ?_ GE102.out) | exact HB.out))) : w.heap.size ≤ gb103)); have n5_ := Aside0.mk ((by rw [hg]; exact Nat.ne_of_lt (blk_lt (g := gb102) (o := .cells #[.slice none 0 0, .slice none 0 0, .int .i64 0, .bool false] 31 (0, 0)) (by (with_reducible repeat (first | refine blk_drewN ?_ _ | refine blk_drew ?_ | refine blk_alloc ?_ _)); exact BK102.out)) : gb102 ≠ gb103)); have n6_ := Aside0.mk ((by rw [hg]; exact Nat.ne_of_gt (blk_lt (g := gb102) (o := .cells #[.slice none 0 0, .slice none 0 0, .int .i64 0, .bool false] 31 (0, 0)) (by (with_reducible repeat (first | refine blk_drewN ?_ _ | refine blk_drew ?_ | refine blk_alloc ?_ _)); exact BK102.out)) : gb103 ≠ gb102)); clear BK102; clear HB; have BK102 := n0_; have HB := n1_; have BK103 := n2_; have GW103 := n3_; have GE103 := n4_; have NB102_103 := n5_; have NB103_102 := n6_; clear n0_ n1_ n2_ n3_ n4_ n5_ n6_; clear hb hbox hg))
  go_loopg [8, 15] k (fun kq v8 v15 w' => ∃ (x8_1 : List Int) (x15_1 : Int) (x104000_1 : List ByteArray) (x104001_1 : List ByteArray) (u104000 : Value) (u104001 : Value), v15 = .int .i64 x15_1 ∧ Aside0 (view_Field.l0 kq a1 a2 x8_1 l0 (l0.length : Int) x15_1 x104000_1 x104001_1 0 false = some (r1, r2, r3, r4)) ∧ Aside0 (kq ≤ k) ∧ Aside0 (Kd.R (Kd.int .i64) 2 w' w.heap.size (fun _ => True) v8 x8_1) ∧ Aside0 (Kd.R Kd.string 9 w' w.heap.size (fun k_ => some k_ ≠ (u104001 : Value).ownBlock) u104000 x104000_1) ∧ Aside0 (Kd.R Kd.string 9 w' w.heap.size (fun k_ => some k_ ≠ (u104000 : Value).ownBlock) u104001 x104001_1) ∧ Aside0 (w'.heap[gb102]? = some (.cells #[(.slice none 0 0), (.slice none 0 0), .int .i64 0, .bool false] 31 (0, 0))) ∧ Aside0 (w'.heap[gb103]? = some (.cells #[u104000, u104001, .int .i64 0, .bool false] 31 (0, 0))) ∧ Aside0 (Below w.heap.size w w'))
  case atStart => exact ⟨(([] : List Int)), (0), (([] : List ByteArray)), (([] : List ByteArray)), (.slice none 0 0), (.slice none 0 0), (by first | rfl | (simp; done) | (simp [*]; done)), H', ⟨Nat.le_refl _⟩, ⟨by first | exact Kd.R_nil _ _ _ _ _ | exact Kd.N_nil _ _ _ _ _ | exact Kd.V_nil _ _ _ _ _ | exact Kd.Q_nil _ _ _ _ _ | exact Kd.S_nil _ _ _ _ _⟩, ⟨by first | exact Kd.R_nil _ _ _ _ _ | exact Kd.N_nil _ _ _ _ _ | exact Kd.V_nil _ _ _ _ _ | exact Kd.Q_nil _ _ _ _ _ | exact Kd.S_nil _ _ _ _ _⟩, ⟨by first | exact Kd.R_nil _ _ _ _ _ | exact Kd.N_nil _ _ _ _ _ | exact Kd.V_nil _ _ _ _ _ | exact Kd.Q_nil _ _ _ _ _ | exact Kd.S_nil _ _ _ _ _⟩, ⟨by (with_reducible repeat (first | refine blk_drewN ?_ _ | refine blk_drew ?_ | refine blk_alloc ?_ _)); exact BK102.out⟩, ⟨by (with_reducible repeat (first | refine blk_drewN ?_ _ | refine blk_drew ?_ | refine blk_alloc ?_ _)); exact BK103.out⟩, ⟨by repeat (first | (with_reducible first | exact HB.out | apply below_alloc | apply pw_below_drewN | apply below_drew1 | refine below_set ?_ GE102.out | refine below_set ?_ GE103.out) | exact HB.out)⟩⟩
  case round =>
    clear H'
    try clear c1
    try clear p2
    obtain ⟨x8_1, x15_1, x104000_1, x104001_1, u104000, u104001, rfl, HA, HK1, HO_8, HO_104000, HO_104001, BK102, BK103, HB⟩ := hrel
    cases gk with
    | zero => exact absurd HA.out (by simp [view_Field.l0])
    | succ k1 =>
      have H := HA.out
      clear HA
      simp only [view_Field.l0] at H
      by_cases c6 : x15_1 < (l0.length : Int)
      · rw [if_pos c6] at H
        have c6b0 : decide (x15_1 < (l0.length : Int)) = true := decide_eq_true c6
        clear c6
        by_cases c7 : 0 ≤ x15_1
        · rw [if_pos c7] at H
          have c7b0 : decide (0 ≤ x15_1) = true := decide_eq_true c7
          clear c7
          by_cases c8 : x15_1 < (l0.length : Int)
          · rw [if_pos c8] at H
            have c8b0 : decide (x15_1 < (l0.length : Int)) = true := decide_eq_true c8
            clear c8
            have HC9 := Aside0.mk H
            clear H
            have p112 : 0 ≤ (x15_1 : Int) := of_decide_eq_true (by first | (with_reducible assumption) | assumption)
            have q112 : x15_1 < (l0.length : Int) := of_decide_eq_true (by first | (with_reducible assumption) | assumption)
            obtain ⟨ad112, e112, hx112_0, hx112_1, hx112_2, hx112_3, hx112_4, hx112_5, hx112_6, hx112_7⟩ := at_T26 HR0.out x15_1 p112 q112
            cases e112
            replace hx112_0 := (HB.out.cell (World.block_lt_of_cell? w _ hx112_0)).trans hx112_0
            replace hx112_1 := (HB.out.cell (World.block_lt_of_cell? w _ hx112_1)).trans hx112_1
            replace hx112_2 := (HB.out.cell (World.block_lt_of_cell? w _ hx112_2)).trans hx112_2
            replace hx112_3 := (HB.out.cell (World.block_lt_of_cell? w _ hx112_3)).trans hx112_3
            replace hx112_4 := (HB.out.cell (World.block_lt_of_cell? w _ hx112_4)).trans hx112_4
            replace hx112_5 := (HB.out.cell (World.block_lt_of_cell? w _ hx112_5)).trans hx112_5
            replace hx112_6 := (HB.out.cell (World.block_lt_of_cell? w _ hx112_6)).trans hx112_6
            replace hx112_7 := (HB.out.cell (World.block_lt_of_cell? w _ hx112_7)).trans hx112_7
            replace p112 := eq_true p112
            replace q112 := eq_true q112
            go_upto_region 6 with (first | ((with_reducible refine gate_dst (N := 10) rfl ?_); refine box_event ?hg (N := 10) ?hd (cs := #[.string (⟨#[]⟩ : ByteArray), .string (⟨#[]⟩ : ByteArray), .int .i64 0, .string (⟨#[]⟩ : ByteArray), .int .i64 0, .int .i64 0, .int .i64 0, .int .i64 0]) (t := 26) ?hr ?_; (case hd => rfl); (case hg => rfl); (case hr => first | (go_simp; done) | (go_simp; rfl)); intro gb113 hg w10 hbox hb; have n0_ := Aside0.mk (Kd.R_below (by (with_reducible repeat (first | apply Kd.R_alloc | apply Kd.R_drewN | apply Kd.R_drew)); exact HO_8.out) hb); have n1_ := Aside0.mk (Kd.R_below (by (with_reducible repeat (first | apply Kd.R_alloc | apply Kd.R_drewN | apply Kd.R_drew)); exact HO_104000.out) hb); have n2_ := Aside0.mk (Kd.R_below (by (with_reducible repeat (first | apply Kd.R_alloc | apply Kd.R_drewN | apply Kd.R_drew)); exact HO_104001.out) hb); have n3_ := Aside0.mk (blk_below (g := gb102) (o := .cells #[.slice none 0 0, .slice none 0 0, .int .i64 0, .bool false] 31 (0, 0)) (by (with_reducible repeat (first | refine blk_drewN ?_ _ | refine blk_drew ?_ | refine blk_alloc ?_ _)); exact BK102.out) hb); have n4_ := Aside0.mk (blk_below (g := gb103) (o := .cells #[u104000, u104001, .int .i64 0, .bool false] 31 (0, 0)) (by (with_reducible repeat (first | refine blk_drewN ?_ _ | refine blk_drew ?_ | refine blk_alloc ?_ _)); exact BK103.out) hb); have n5_ := Aside0.mk (below_step (by repeat (first | (with_reducible first | exact HB.out | apply below_alloc | apply pw_below_drewN | apply below_drew1 | refine below_set ?_ GE102.out | refine below_set ?_ GE103.out) | exact HB.out)) hb); have n6_ := Aside0.mk (hbox); have n7_ := Aside0.mk ((by rw [hg]; exact (below_size (by repeat (first | (with_reducible first | exact HB.out | apply below_alloc | apply pw_below_drewN | apply below_drew1 | refine below_set ?_ GE102.out | refine below_set ?_ GE103.out) | exact HB.out))) : w.heap.size ≤ gb113)); have n8_ := Aside0.mk ((by rw [hg]; exact (below_size (by repeat (first | (with_reducible first | exact HB.out | apply below_alloc | apply pw_below_drewN | apply below_drew1 | refine below_set ?_ GE102.out | refine below_set ?_ GE103.out) | exact HB.out))) : w.heap.size ≤ gb113)); have n9_ := Aside0.mk ((by rw [hg]; exact Nat.ne_of_lt (blk_lt (g := gb102) (o := .cells #[.slice none 0 0, .slice none 0 0, .int .i64 0, .bool false] 31 (0, 0)) (by (with_reducible repeat (first | refine blk_drewN ?_ _ | refine blk_drew ?_ | refine blk_alloc ?_ _)); exact BK102.out)) : gb102 ≠ gb113)); have n10_ := Aside0.mk ((by rw [hg]; exact Nat.ne_of_gt (blk_lt (g := gb102) (o := .cells #[.slice none 0 0, .slice none 0 0, .int .i64 0, .bool false] 31 (0, 0)) (by (with_reducible repeat (first | refine blk_drewN ?_ _ | refine blk_drew ?_ | refine blk_alloc ?_ _)); exact BK102.out)) : gb113 ≠ gb102)); have n11_ := Aside0.mk ((by rw [hg]; exact Nat.ne_of_lt (blk_lt (g := gb103) (o := .cells #[u104000, u104001, .int .i64 0, .bool false] 31 (0, 0)) (by (with_reducible repeat (first | refine blk_drewN ?_ _ | refine blk_drew ?_ | refine blk_alloc ?_ _)); exact BK103.out)) : gb103 ≠ gb113)); have n12_ := Aside0.mk ((by rw [hg]; exact Nat.ne_of_gt (blk_lt (g := gb103) (o := .cells #[u104000, u104001, .int .i64 0, .bool false] 31 (0, 0)) (by (with_reducible repeat (first | refine blk_drewN ?_ _ | refine blk_drew ?_ | refine blk_alloc ?_ _)); exact BK103.out)) : gb113 ≠ gb103)); clear HO_8; clear HO_104000; clear HO_104001; clear BK102; clear BK103; clear HB; have HO_8 := n0_; have HO_104000 := n1_; have HO_104001 := n2_; have BK102 := n3_; have BK103 := n4_; have HB := n5_; have BK113 := n6_; have GW113 := n7_; have GE113 := n8_; have NB102_113 := n9_; have NB113_102 := n10_; have NB103_113 := n11_; have NB113_103 := n12_; clear n0_ n1_ n2_ n3_ n4_ n5_ n6_ n7_ n8_ n9_ n10_ n11_ n12_; clear hb hbox hg; have hnb11 := NB113_102.out; have hnc11 := NB102_113.out; have hnb12 := NB113_103.out; have hnc12 := NB103_113.out; have hcz13_0 : w10.cell? ⟨gb113, 0, none⟩ = some (.string (⟨#[]⟩ : ByteArray)) := (blk_cell BK113.out 0).trans rfl; have hcz13_1 : w10.cell? ⟨gb113, 1, none⟩ = some (.string (⟨#[]⟩ : ByteArray)) := (blk_cell BK113.out 1).trans rfl; have hcz13_2 : w10.cell? ⟨gb113, 2, none⟩ = some (.int .i64 0) := (blk_cell BK113.out 2).trans rfl; have hcz13_3 : w10.cell? ⟨gb113, 3, none⟩ = some (.string (⟨#[]⟩ : ByteArray)) := (blk_cell BK113.out 3).trans rfl; have hcz13_4 : w10.cell? ⟨gb113, 4, none⟩ = some (.int .i64 0) := (blk_cell BK113.out 4).trans rfl; have hcz13_5 : w10.cell? ⟨gb113, 5, none⟩ = some (.int .i64 0) := (blk_cell BK113.out 5).trans rfl; have hcz13_6 : w10.cell? ⟨gb113, 6, none⟩ = some (.int .i64 0) := (blk_cell BK113.out 6).trans rfl; have hcz13_7 : w10.cell? ⟨gb113, 7, none⟩ = some (.int .i64 0) := (blk_cell BK113.out 7).trans rfl; have hfz13_0 := blk_frozen BK113.out 0; have hfz13_1 := blk_frozen BK113.out 1; have hfz13_2 := blk_frozen BK113.out 2; have hfz13_3 := blk_frozen BK113.out 3; have hfz13_4 := blk_frozen BK113.out 4; have hfz13_5 := blk_frozen BK113.out 5; have hfz13_6 := blk_frozen BK113.out 6; have hfz13_7 := blk_frozen BK113.out 7))
            (try simp only [Act.put, List.setIfInBounds_toArray, List.set_cons_zero, List.set_cons_succ])
            go_cut [28] (fun v28 wc => ∃ (kq : Nat) (x28_8 : Bool), v28 = .bool x28_8 ∧ Aside0 (view_Field.j1 kq a1 a2 x8_1 l0 (l0.length : Int) x15_1 x28_8 x104000_1 x104001_1 0 false ((rd_T26 l0 x15_1).f0) ((rd_T26 l0 x15_1).f1) ((rd_T26 l0 x15_1).f2) ((rd_T26 l0 x15_1).f3) ((rd_T26 l0 x15_1).f4) ((rd_T26 l0 x15_1).f5.f0) ((rd_T26 l0 x15_1).f5.f1) ((rd_T26 l0 x15_1).f5.f2) = some (r1, r2, r3, r4)) ∧ Aside0 (kq ≤ k1) ∧ Aside0 (Kd.R (Kd.int .i64) 2 wc w.heap.size (fun _ => True) u8 x8_1) ∧ Aside0 (Kd.R Kd.string 9 wc w.heap.size (fun k_ => some k_ ≠ (u104001 : Value).ownBlock) u104000 x104000_1) ∧ Aside0 (Kd.R Kd.string 9 wc w.heap.size (fun k_ => some k_ ≠ (u104000 : Value).ownBlock) u104001 x104001_1) ∧ Aside0 (wc.heap[gb102]? = some (.cells #[(.slice none 0 0), (.slice none 0 0), .int .i64 0, .bool false] 31 (0, 0))) ∧ Aside0 (wc.heap[gb103]? = some (.cells #[u104000, u104001, .int .i64 0, .bool false] 31 (0, 0))) ∧ Aside0 (wc.heap[gb113]? = some (.cells #[.string ((rd_T26 l0 x15_1).f0), .string ((rd_T26 l0 x15_1).f1), .int .i64 ((rd_T26 l0 x15_1).f2), .string ((rd_T26 l0 x15_1).f3), .int .i64 ((rd_T26 l0 x15_1).f4), .int .i64 ((rd_T26 l0 x15_1).f5.f0), .int .i64 ((rd_T26 l0 x15_1).f5.f1), .int .i64 ((rd_T26 l0 x15_1).f5.f2)] 26 (0, 0))) ∧ Aside0 (Below w.heap.size w wc))
            case first =>
              have H := HC9.out
              clear HC9
              by_cases c14 : ((rd_T26 l0 x15_1).f0).toList = a1.toList
              · rw [if_pos c14] at H
                have c14b0 : (((rd_T26 l0 x15_1).f0).toList == a1.toList) = true := beq_iff_eq.mpr c14
                have c14b1 : (((rd_T26 l0 x15_1).f0).toList != a1.toList) = false := bne_eq_false_iff_eq.mpr c14
                clear c14
                (first | rw [c14b0] | (simp only [i64_w, i32_w]; rw [c14b0]) | skip)
                have H' := Aside0.mk H
                clear H
                have hnb15 := NB113_102.out
                have hnc15 := NB102_113.out
                have hnb16 := NB113_103.out
                have hnc16 := NB103_113.out
                have hcz17_0 : w10.cell? ⟨gb113, 0, none⟩ = some (.string (⟨#[]⟩ : ByteArray)) := (blk_cell BK113.out 0).trans rfl
                have hcz17_1 : w10.cell? ⟨gb113, 1, none⟩ = some (.string (⟨#[]⟩ : ByteArray)) := (blk_cell BK113.out 1).trans rfl
                have hcz17_2 : w10.cell? ⟨gb113, 2, none⟩ = some (.int .i64 0) := (blk_cell BK113.out 2).trans rfl
                have hcz17_3 : w10.cell? ⟨gb113, 3, none⟩ = some (.string (⟨#[]⟩ : ByteArray)) := (blk_cell BK113.out 3).trans rfl
                have hcz17_4 : w10.cell? ⟨gb113, 4, none⟩ = some (.int .i64 0) := (blk_cell BK113.out 4).trans rfl
                have hcz17_5 : w10.cell? ⟨gb113, 5, none⟩ = some (.int .i64 0) := (blk_cell BK113.out 5).trans rfl
                have hcz17_6 : w10.cell? ⟨gb113, 6, none⟩ = some (.int .i64 0) := (blk_cell BK113.out 6).trans rfl
                have hcz17_7 : w10.cell? ⟨gb113, 7, none⟩ = some (.int .i64 0) := (blk_cell BK113.out 7).trans rfl
                have hfz17_0 := blk_frozen BK113.out 0
                have hfz17_1 := blk_frozen BK113.out 1
                have hfz17_2 := blk_frozen BK113.out 2
                have hfz17_3 := blk_frozen BK113.out 3
                have hfz17_4 := blk_frozen BK113.out 4
                have hfz17_5 := blk_frozen BK113.out 5
                have hfz17_6 := blk_frozen BK113.out 6
                have hfz17_7 := blk_frozen BK113.out 7
                go_wp2
                go_meet
                case rel => exact ⟨_, ((((rd_T26 l0 x15_1).f1).toList != a2.toList)), (by first | rfl | (simp; done) | (simp [*]; done)), H', ⟨by have := HK1.out; first | omega | exact Nat.le_refl _⟩, ⟨by (with_reducible repeat (first | apply Kd.R_alloc | apply Kd.R_drewN | apply Kd.R_drew)); exact Kd.R_mono (Kd.R_far (p := ⟨gb113, 7, none⟩) (Kd.R_far (p := ⟨gb113, 6, none⟩) (Kd.R_far (p := ⟨gb113, 5, none⟩) (Kd.R_far (p := ⟨gb113, 4, none⟩) (Kd.R_far (p := ⟨gb113, 3, none⟩) (Kd.R_far (p := ⟨gb113, 2, none⟩) (Kd.R_far (p := ⟨gb113, 1, none⟩) (Kd.R_far (p := ⟨gb113, 0, none⟩) (Kd.R_types HO_8.out BK113.out (by decide)) (fun _ hk => hk.2) (.string ((rd_T26 l0 x15_1).f0))) (fun _ hk => hk.2) (.string ((rd_T26 l0 x15_1).f1))) (fun _ hk => hk.2) (.int .i64 ((rd_T26 l0 x15_1).f2))) (fun _ hk => hk.2) (.string ((rd_T26 l0 x15_1).f3))) (fun _ hk => hk.2) (.int .i64 ((rd_T26 l0 x15_1).f4))) (fun _ hk => hk.2) (.int .i64 ((rd_T26 l0 x15_1).f5.f0))) (fun _ hk => hk.2) (.int .i64 ((rd_T26 l0 x15_1).f5.f1))) (fun _ hk => hk.2) (.int .i64 ((rd_T26 l0 x15_1).f5.f2))) (fun _ hk => trivial)⟩, ⟨by (with_reducible repeat (first | apply Kd.R_alloc | apply Kd.R_drewN | apply Kd.R_drew)); exact Kd.R_mono (Kd.R_far (p := ⟨gb113, 7, none⟩) (Kd.R_far (p := ⟨gb113, 6, none⟩) (Kd.R_far (p := ⟨gb113, 5, none⟩) (Kd.R_far (p := ⟨gb113, 4, none⟩) (Kd.R_far (p := ⟨gb113, 3, none⟩) (Kd.R_far (p := ⟨gb113, 2, none⟩) (Kd.R_far (p := ⟨gb113, 1, none⟩) (Kd.R_far (p := ⟨gb113, 0, none⟩) (Kd.R_types HO_104000.out BK113.out (by decide)) (fun _ hk => hk.2) (.string ((rd_T26 l0 x15_1).f0))) (fun _ hk => hk.2) (.string ((rd_T26 l0 x15_1).f1))) (fun _ hk => hk.2) (.int .i64 ((rd_T26 l0 x15_1).f2))) (fun _ hk => hk.2) (.string ((rd_T26 l0 x15_1).f3))) (fun _ hk => hk.2) (.int .i64 ((rd_T26 l0 x15_1).f4))) (fun _ hk => hk.2) (.int .i64 ((rd_T26 l0 x15_1).f5.f0))) (fun _ hk => hk.2) (.int .i64 ((rd_T26 l0 x15_1).f5.f1))) (fun _ hk => hk.2) (.int .i64 ((rd_T26 l0 x15_1).f5.f2))) (fun _ hk => hk.1)⟩, ⟨by (with_reducible repeat (first | apply Kd.R_alloc | apply Kd.R_drewN | apply Kd.R_drew)); exact Kd.R_mono (Kd.R_far (p := ⟨gb113, 7, none⟩) (Kd.R_far (p := ⟨gb113, 6, none⟩) (Kd.R_far (p := ⟨gb113, 5, none⟩) (Kd.R_far (p := ⟨gb113, 4, none⟩) (Kd.R_far (p := ⟨gb113, 3, none⟩) (Kd.R_far (p := ⟨gb113, 2, none⟩) (Kd.R_far (p := ⟨gb113, 1, none⟩) (Kd.R_far (p := ⟨gb113, 0, none⟩) (Kd.R_types HO_104001.out BK113.out (by decide)) (fun _ hk => hk.2) (.string ((rd_T26 l0 x15_1).f0))) (fun _ hk => hk.2) (.string ((rd_T26 l0 x15_1).f1))) (fun _ hk => hk.2) (.int .i64 ((rd_T26 l0 x15_1).f2))) (fun _ hk => hk.2) (.string ((rd_T26 l0 x15_1).f3))) (fun _ hk => hk.2) (.int .i64 ((rd_T26 l0 x15_1).f4))) (fun _ hk => hk.2) (.int .i64 ((rd_T26 l0 x15_1).f5.f0))) (fun _ hk => hk.2) (.int .i64 ((rd_T26 l0 x15_1).f5.f1))) (fun _ hk => hk.2) (.int .i64 ((rd_T26 l0 x15_1).f5.f2))) (fun _ hk => hk.1)⟩, ⟨by (with_reducible repeat (first | refine blk_drewN ?_ _ | refine blk_drew ?_ | refine blk_alloc ?_ _)); refine blk_far ?_ NB102_113.out _; (with_reducible repeat (first | refine blk_drewN ?_ _ | refine blk_drew ?_ | refine blk_alloc ?_ _)); refine blk_far ?_ NB102_113.out _; (with_reducible repeat (first | refine blk_drewN ?_ _ | refine blk_drew ?_ | refine blk_alloc ?_ _)); refine blk_far ?_ NB102_113.out _; (with_reducible repeat (first | refine blk_drewN ?_ _ | refine blk_drew ?_ | refine blk_alloc ?_ _)); refine blk_far ?_ NB102_113.out _; (with_reducible repeat (first | refine blk_drewN ?_ _ | refine blk_drew ?_ | refine blk_alloc ?_ _)); refine blk_far ?_ NB102_113.out _; (with_reducible repeat (first | refine blk_drewN ?_ _ | refine blk_drew ?_ | refine blk_alloc ?_ _)); refine blk_far ?_ NB102_113.out _; (with_reducible repeat (first | refine blk_drewN ?_ _ | refine blk_drew ?_ | refine blk_alloc ?_ _)); refine blk_far ?_ NB102_113.out _; (with_reducible repeat (first | refine blk_drewN ?_ _ | refine blk_drew ?_ | refine blk_alloc ?_ _)); refine blk_far ?_ NB102_113.out _; (with_reducible repeat (first | refine blk_drewN ?_ _ | refine blk_drew ?_ | refine blk_alloc ?_ _)); exact BK102.out⟩, ⟨by (with_reducible repeat (first | refine blk_drewN ?_ _ | refine blk_drew ?_ | refine blk_alloc ?_ _)); refine blk_far ?_ NB103_113.out _; (with_reducible repeat (first | refine blk_drewN ?_ _ | refine blk_drew ?_ | refine blk_alloc ?_ _)); refine blk_far ?_ NB103_113.out _; (with_reducible repeat (first | refine blk_drewN ?_ _ | refine blk_drew ?_ | refine blk_alloc ?_ _)); refine blk_far ?_ NB103_113.out _; (with_reducible repeat (first | refine blk_drewN ?_ _ | refine blk_drew ?_ | refine blk_alloc ?_ _)); refine blk_far ?_ NB103_113.out _; (with_reducible repeat (first | refine blk_drewN ?_ _ | refine blk_drew ?_ | refine blk_alloc ?_ _)); refine blk_far ?_ NB103_113.out _; (with_reducible repeat (first | refine blk_drewN ?_ _ | refine blk_drew ?_ | refine blk_alloc ?_ _)); refine blk_far ?_ NB103_113.out _; (with_reducible repeat (first | refine blk_drewN ?_ _ | refine blk_drew ?_ | refine blk_alloc ?_ _)); refine blk_far ?_ NB103_113.out _; (with_reducible repeat (first | refine blk_drewN ?_ _ | refine blk_drew ?_ | refine blk_alloc ?_ _)); refine blk_far ?_ NB103_113.out _; (with_reducible repeat (first | refine blk_drewN ?_ _ | refine blk_drew ?_ | refine blk_alloc ?_ _)); exact BK103.out⟩, ⟨by (with_reducible repeat (first | refine blk_drewN ?_ _ | refine blk_drew ?_ | refine blk_alloc ?_ _)); refine blk_put (cs := #[.string ((rd_T26 l0 x15_1).f0), .string ((rd_T26 l0 x15_1).f1), .int .i64 ((rd_T26 l0 x15_1).f2), .string ((rd_T26 l0 x15_1).f3), .int .i64 ((rd_T26 l0 x15_1).f4), .int .i64 ((rd_T26 l0 x15_1).f5.f0), .int .i64 ((rd_T26 l0 x15_1).f5.f1), .int .i64 0]) ?_ 7 _ rfl; (with_reducible repeat (first | refine blk_drewN ?_ _ | refine blk_drew ?_ | refine blk_alloc ?_ _)); refine blk_put (cs := #[.string ((rd_T26 l0 x15_1).f0), .string ((rd_T26 l0 x15_1).f1), .int .i64 ((rd_T26 l0 x15_1).f2), .string ((rd_T26 l0 x15_1).f3), .int .i64 ((rd_T26 l0 x15_1).f4), .int .i64 ((rd_T26 l0 x15_1).f5.f0), .int .i64 0, .int .i64 0]) ?_ 6 _ rfl; (with_reducible repeat (first | refine blk_drewN ?_ _ | refine blk_drew ?_ | refine blk_alloc ?_ _)); refine blk_put (cs := #[.string ((rd_T26 l0 x15_1).f0), .string ((rd_T26 l0 x15_1).f1), .int .i64 ((rd_T26 l0 x15_1).f2), .string ((rd_T26 l0 x15_1).f3), .int .i64 ((rd_T26 l0 x15_1).f4), .int .i64 0, .int .i64 0, .int .i64 0]) ?_ 5 _ rfl; (with_reducible repeat (first | refine blk_drewN ?_ _ | refine blk_drew ?_ | refine blk_alloc ?_ _)); refine blk_put (cs := #[.string ((rd_T26 l0 x15_1).f0), .string ((rd_T26 l0 x15_1).f1), .int .i64 ((rd_T26 l0 x15_1).f2), .string ((rd_T26 l0 x15_1).f3), .int .i64 0, .int .i64 0, .int .i64 0, .int .i64 0]) ?_ 4 _ rfl; (with_reducible repeat (first | refine blk_drewN ?_ _ | refine blk_drew ?_ | refine blk_alloc ?_ _)); refine blk_put (cs := #[.string ((rd_T26 l0 x15_1).f0), .string ((rd_T26 l0 x15_1).f1), .int .i64 ((rd_T26 l0 x15_1).f2), .string (⟨#[]⟩ : ByteArray), .int .i64 0, .int .i64 0, .int .i64 0, .int .i64 0]) ?_ 3 _ rfl; (with_reducible repeat (first | refine blk_drewN ?_ _ | refine blk_drew ?_ | refine blk_alloc ?_ _)); refine blk_put (cs := #[.string ((rd_T26 l0 x15_1).f0), .string ((rd_T26 l0 x15_1).f1), .int .i64 0, .string (⟨#[]⟩ : ByteArray), .int .i64 0, .int .i64 0, .int .i64 0, .int .i64 0]) ?_ 2 _ rfl; (with_reducible repeat (first | refine blk_drewN ?_ _ | refine blk_drew ?_ | refine blk_alloc ?_ _)); refine blk_put (cs := #[.string ((rd_T26 l0 x15_1).f0), .string (⟨#[]⟩ : ByteArray), .int .i64 0, .string (⟨#[]⟩ : ByteArray), .int .i64 0, .int .i64 0, .int .i64 0, .int .i64 0]) ?_ 1 _ rfl; (with_reducible repeat (first | refine blk_drewN ?_ _ | refine blk_drew ?_ | refine blk_alloc ?_ _)); refine blk_put (cs := #[.string (⟨#[]⟩ : ByteArray), .string (⟨#[]⟩ : ByteArray), .int .i64 0, .string (⟨#[]⟩ : ByteArray), .int .i64 0, .int .i64 0, .int .i64 0, .int .i64 0]) ?_ 0 _ rfl; (with_reducible repeat (first | refine blk_drewN ?_ _ | refine blk_drew ?_ | refine blk_alloc ?_ _)); exact BK113.out⟩, ⟨by repeat (first | (with_reducible first | exact HB.out | apply below_alloc | apply pw_below_drewN | apply below_drew1 | refine below_set ?_ GE102.out | refine below_set ?_ GE103.out | refine below_set ?_ GE113.out) | exact HB.out)⟩⟩
              · rw [if_neg c14] at H
                have c14b0 : (((rd_T26 l0 x15_1).f0).toList == a1.toList) = false := beq_eq_false_iff_ne.mpr c14
                have c14b1 : (((rd_T26 l0 x15_1).f0).toList != a1.toList) = true := bne_iff_ne.mpr c14
                (first | rw [c14b0] | (simp only [i64_w, i32_w]; rw [c14b0]) | skip)
                have H' := Aside0.mk H
                clear H
                have hnb18 := NB113_102.out
                have hnc18 := NB102_113.out
                have hnb19 := NB113_103.out
                have hnc19 := NB103_113.out
                have hcz20_0 : w10.cell? ⟨gb113, 0, none⟩ = some (.string (⟨#[]⟩ : ByteArray)) := (blk_cell BK113.out 0).trans rfl
                have hcz20_1 : w10.cell? ⟨gb113, 1, none⟩ = some (.string (⟨#[]⟩ : ByteArray)) := (blk_cell BK113.out 1).trans rfl
                have hcz20_2 : w10.cell? ⟨gb113, 2, none⟩ = some (.int .i64 0) := (blk_cell BK113.out 2).trans rfl
                have hcz20_3 : w10.cell? ⟨gb113, 3, none⟩ = some (.string (⟨#[]⟩ : ByteArray)) := (blk_cell BK113.out 3).trans rfl
                have hcz20_4 : w10.cell? ⟨gb113, 4, none⟩ = some (.int .i64 0) := (blk_cell BK113.out 4).trans rfl
                have hcz20_5 : w10.cell? ⟨gb113, 5, none⟩ = some (.int .i64 0) := (blk_cell BK113.out 5).trans rfl
                have hcz20_6 : w10.cell? ⟨gb113, 6, none⟩ = some (.int .i64 0) := (blk_cell BK113.out 6).trans rfl
                have hcz20_7 : w10.cell? ⟨gb113, 7, none⟩ = some (.int .i64 0) := (blk_cell BK113.out 7).trans rfl
                have hfz20_0 := blk_frozen BK113.out 0
                have hfz20_1 := blk_frozen BK113.out 1
                have hfz20_2 := blk_frozen BK113.out 2
                have hfz20_3 := blk_frozen BK113.out 3
                have hfz20_4 := blk_frozen BK113.out 4
                have hfz20_5 := blk_frozen BK113.out 5
                have hfz20_6 := blk_frozen BK113.out 6
                have hfz20_7 := blk_frozen BK113.out 7
                go_wp2
                go_meet
                case rel => exact ⟨_, (true), (by first | rfl | (simp; done) | (simp [*]; done)), H', ⟨by have := HK1.out; first | omega | exact Nat.le_refl _⟩, ⟨by (with_reducible repeat (first | apply Kd.R_alloc | apply Kd.R_drewN | apply Kd.R_drew)); exact Kd.R_mono (Kd.R_far (p := ⟨gb113, 7, none⟩) (Kd.R_far (p := ⟨gb113, 6, none⟩) (Kd.R_far (p := ⟨gb113, 5, none⟩) (Kd.R_far (p := ⟨gb113, 4, none⟩) (Kd.R_far (p := ⟨gb113, 3, none⟩) (Kd.R_far (p := ⟨gb113, 2, none⟩) (Kd.R_far (p := ⟨gb113, 1, none⟩) (Kd.R_far (p := ⟨gb113, 0, none⟩) (Kd.R_types HO_8.out BK113.out (by decide)) (fun _ hk => hk.2) (.string ((rd_T26 l0 x15_1).f0))) (fun _ hk => hk.2) (.string ((rd_T26 l0 x15_1).f1))) (fun _ hk => hk.2) (.int .i64 ((rd_T26 l0 x15_1).f2))) (fun _ hk => hk.2) (.string ((rd_T26 l0 x15_1).f3))) (fun _ hk => hk.2) (.int .i64 ((rd_T26 l0 x15_1).f4))) (fun _ hk => hk.2) (.int .i64 ((rd_T26 l0 x15_1).f5.f0))) (fun _ hk => hk.2) (.int .i64 ((rd_T26 l0 x15_1).f5.f1))) (fun _ hk => hk.2) (.int .i64 ((rd_T26 l0 x15_1).f5.f2))) (fun _ hk => trivial)⟩, ⟨by (with_reducible repeat (first | apply Kd.R_alloc | apply Kd.R_drewN | apply Kd.R_drew)); exact Kd.R_mono (Kd.R_far (p := ⟨gb113, 7, none⟩) (Kd.R_far (p := ⟨gb113, 6, none⟩) (Kd.R_far (p := ⟨gb113, 5, none⟩) (Kd.R_far (p := ⟨gb113, 4, none⟩) (Kd.R_far (p := ⟨gb113, 3, none⟩) (Kd.R_far (p := ⟨gb113, 2, none⟩) (Kd.R_far (p := ⟨gb113, 1, none⟩) (Kd.R_far (p := ⟨gb113, 0, none⟩) (Kd.R_types HO_104000.out BK113.out (by decide)) (fun _ hk => hk.2) (.string ((rd_T26 l0 x15_1).f0))) (fun _ hk => hk.2) (.string ((rd_T26 l0 x15_1).f1))) (fun _ hk => hk.2) (.int .i64 ((rd_T26 l0 x15_1).f2))) (fun _ hk => hk.2) (.string ((rd_T26 l0 x15_1).f3))) (fun _ hk => hk.2) (.int .i64 ((rd_T26 l0 x15_1).f4))) (fun _ hk => hk.2) (.int .i64 ((rd_T26 l0 x15_1).f5.f0))) (fun _ hk => hk.2) (.int .i64 ((rd_T26 l0 x15_1).f5.f1))) (fun _ hk => hk.2) (.int .i64 ((rd_T26 l0 x15_1).f5.f2))) (fun _ hk => hk.1)⟩, ⟨by (with_reducible repeat (first | apply Kd.R_alloc | apply Kd.R_drewN | apply Kd.R_drew)); exact Kd.R_mono (Kd.R_far (p := ⟨gb113, 7, none⟩) (Kd.R_far (p := ⟨gb113, 6, none⟩) (Kd.R_far (p := ⟨gb113, 5, none⟩) (Kd.R_far (p := ⟨gb113, 4, none⟩) (Kd.R_far (p := ⟨gb113, 3, none⟩) (Kd.R_far (p := ⟨gb113, 2, none⟩) (Kd.R_far (p := ⟨gb113, 1, none⟩) (Kd.R_far (p := ⟨gb113, 0, none⟩) (Kd.R_types HO_104001.out BK113.out (by decide)) (fun _ hk => hk.2) (.string ((rd_T26 l0 x15_1).f0))) (fun _ hk => hk.2) (.string ((rd_T26 l0 x15_1).f1))) (fun _ hk => hk.2) (.int .i64 ((rd_T26 l0 x15_1).f2))) (fun _ hk => hk.2) (.string ((rd_T26 l0 x15_1).f3))) (fun _ hk => hk.2) (.int .i64 ((rd_T26 l0 x15_1).f4))) (fun _ hk => hk.2) (.int .i64 ((rd_T26 l0 x15_1).f5.f0))) (fun _ hk => hk.2) (.int .i64 ((rd_T26 l0 x15_1).f5.f1))) (fun _ hk => hk.2) (.int .i64 ((rd_T26 l0 x15_1).f5.f2))) (fun _ hk => hk.1)⟩, ⟨by (with_reducible repeat (first | refine blk_drewN ?_ _ | refine blk_drew ?_ | refine blk_alloc ?_ _)); refine blk_far ?_ NB102_113.out _; (with_reducible repeat (first | refine blk_drewN ?_ _ | refine blk_drew ?_ | refine blk_alloc ?_ _)); refine blk_far ?_ NB102_113.out _; (with_reducible repeat (first | refine blk_drewN ?_ _ | refine blk_drew ?_ | refine blk_alloc ?_ _)); refine blk_far ?_ NB102_113.out _; (with_reducible repeat (first | refine blk_drewN ?_ _ | refine blk_drew ?_ | refine blk_alloc ?_ _)); refine blk_far ?_ NB102_113.out _; (with_reducible repeat (first | refine blk_drewN ?_ _ | refine blk_drew ?_ | refine blk_alloc ?_ _)); refine blk_far ?_ NB102_113.out _; (with_reducible repeat (first | refine blk_drewN ?_ _ | refine blk_drew ?_ | refine blk_alloc ?_ _)); refine blk_far ?_ NB102_113.out _; (with_reducible repeat (first | refine blk_drewN ?_ _ | refine blk_drew ?_ | refine blk_alloc ?_ _)); refine blk_far ?_ NB102_113.out _; (with_reducible repeat (first | refine blk_drewN ?_ _ | refine blk_drew ?_ | refine blk_alloc ?_ _)); refine blk_far ?_ NB102_113.out _; (with_reducible repeat (first | refine blk_drewN ?_ _ | refine blk_drew ?_ | refine blk_alloc ?_ _)); exact BK102.out⟩, ⟨by (with_reducible repeat (first | refine blk_drewN ?_ _ | refine blk_drew ?_ | refine blk_alloc ?_ _)); refine blk_far ?_ NB103_113.out _; (with_reducible repeat (first | refine blk_drewN ?_ _ | refine blk_drew ?_ | refine blk_alloc ?_ _)); refine blk_far ?_ NB103_113.out _; (with_reducible repeat (first | refine blk_drewN ?_ _ | refine blk_drew ?_ | refine blk_alloc ?_ _)); refine blk_far ?_ NB103_113.out _; (with_reducible repeat (first | refine blk_drewN ?_ _ | refine blk_drew ?_ | refine blk_alloc ?_ _)); refine blk_far ?_ NB103_113.out _; (with_reducible repeat (first | refine blk_drewN ?_ _ | refine blk_drew ?_ | refine blk_alloc ?_ _)); refine blk_far ?_ NB103_113.out _; (with_reducible repeat (first | refine blk_drewN ?_ _ | refine blk_drew ?_ | refine blk_alloc ?_ _)); refine blk_far ?_ NB103_113.out _; (with_reducible repeat (first | refine blk_drewN ?_ _ | refine blk_drew ?_ | refine blk_alloc ?_ _)); refine blk_far ?_ NB103_113.out _; (with_reducible repeat (first | refine blk_drewN ?_ _ | refine blk_drew ?_ | refine blk_alloc ?_ _)); refine blk_far ?_ NB103_113.out _; (with_reducible repeat (first | refine blk_drewN ?_ _ | refine blk_drew ?_ | refine blk_alloc ?_ _)); exact BK103.out⟩, ⟨by (with_reducible repeat (first | refine blk_drewN ?_ _ | refine blk_drew ?_ | refine blk_alloc ?_ _)); refine blk_put (cs := #[.string ((rd_T26 l0 x15_1).f0), .string ((rd_T26 l0 x15_1).f1), .int .i64 ((rd_T26 l0 x15_1).f2), .string ((rd_T26 l0 x15_1).f3), .int .i64 ((rd_T26 l0 x15_1).f4), .int .i64 ((rd_T26 l0 x15_1).f5.f0), .int .i64 ((rd_T26 l0 x15_1).f5.f1), .int .i64 0]) ?_ 7 _ rfl; (with_reducible repeat (first | refine blk_drewN ?_ _ | refine blk_drew ?_ | refine blk_alloc ?_ _)); refine blk_put (cs := #[.string ((rd_T26 l0 x15_1).f0), .string ((rd_T26 l0 x15_1).f1), .int .i64 ((rd_T26 l0 x15_1).f2), .string ((rd_T26 l0 x15_1).f3), .int .i64 ((rd_T26 l0 x15_1).f4), .int .i64 ((rd_T26 l0 x15_1).f5.f0), .int .i64 0, .int .i64 0]) ?_ 6 _ rfl; (with_reducible repeat (first | refine blk_drewN ?_ _ | refine blk_drew ?_ | refine blk_alloc ?_ _)); refine blk_put (cs := #[.string ((rd_T26 l0 x15_1).f0), .string ((rd_T26 l0 x15_1).f1), .int .i64 ((rd_T26 l0 x15_1).f2), .string ((rd_T26 l0 x15_1).f3), .int .i64 ((rd_T26 l0 x15_1).f4), .int .i64 0, .int .i64 0, .int .i64 0]) ?_ 5 _ rfl; (with_reducible repeat (first | refine blk_drewN ?_ _ | refine blk_drew ?_ | refine blk_alloc ?_ _)); refine blk_put (cs := #[.string ((rd_T26 l0 x15_1).f0), .string ((rd_T26 l0 x15_1).f1), .int .i64 ((rd_T26 l0 x15_1).f2), .string ((rd_T26 l0 x15_1).f3), .int .i64 0, .int .i64 0, .int .i64 0, .int .i64 0]) ?_ 4 _ rfl; (with_reducible repeat (first | refine blk_drewN ?_ _ | refine blk_drew ?_ | refine blk_alloc ?_ _)); refine blk_put (cs := #[.string ((rd_T26 l0 x15_1).f0), .string ((rd_T26 l0 x15_1).f1), .int .i64 ((rd_T26 l0 x15_1).f2), .string (⟨#[]⟩ : ByteArray), .int .i64 0, .int .i64 0, .int .i64 0, .int .i64 0]) ?_ 3 _ rfl; (with_reducible repeat (first | refine blk_drewN ?_ _ | refine blk_drew ?_ | refine blk_alloc ?_ _)); refine blk_put (cs := #[.string ((rd_T26 l0 x15_1).f0), .string ((rd_T26 l0 x15_1).f1), .int .i64 0, .string (⟨#[]⟩ : ByteArray), .int .i64 0, .int .i64 0, .int .i64 0, .int .i64 0]) ?_ 2 _ rfl; (with_reducible repeat (first | refine blk_drewN ?_ _ | refine blk_drew ?_ | refine blk_alloc ?_ _)); refine blk_put (cs := #[.string ((rd_T26 l0 x15_1).f0), .string (⟨#[]⟩ : ByteArray), .int .i64 0, .string (⟨#[]⟩ : ByteArray), .int .i64 0, .int .i64 0, .int .i64 0, .int .i64 0]) ?_ 1 _ rfl; (with_reducible repeat (first | refine blk_drewN ?_ _ | refine blk_drew ?_ | refine blk_alloc ?_ _)); refine blk_put (cs := #[.string (⟨#[]⟩ : ByteArray), .string (⟨#[]⟩ : ByteArray), .int .i64 0, .string (⟨#[]⟩ : ByteArray), .int .i64 0, .int .i64 0, .int .i64 0, .int .i64 0]) ?_ 0 _ rfl; (with_reducible repeat (first | refine blk_drewN ?_ _ | refine blk_drew ?_ | refine blk_alloc ?_ _)); exact BK113.out⟩, ⟨by repeat (first | (with_reducible first | exact HB.out | apply below_alloc | apply pw_below_drewN | apply below_drew1 | refine below_set ?_ GE102.out | refine below_set ?_ GE103.out | refine below_set ?_ GE113.out) | exact HB.out)⟩⟩
            case rest =>
              clear HC9
              try clear c1
              try clear p1
              try clear q1
              try clear hx1
              try clear p2
              try clear c6
              try clear c6b0
              try clear c7
              try clear c7b0
              try clear c8
              try clear c8b0
              try clear c11
              try clear p11
              try clear q11
              try clear hx11
              try clear c12
              try clear c14
              try clear c14b0
              try clear c14b1
              try clear c15
              try clear c16
              try clear c18
              try clear c19
              try clear hcz13_0
              try clear hcz13_1
              try clear hcz13_2
              try clear hcz13_3
              try clear hcz13_4
              try clear hcz13_5
              try clear hcz13_6
              try clear hcz13_7
              try clear hcz17_0
              try clear hcz17_1
              try clear hcz17_2
              try clear hcz17_3
              try clear hcz17_4
              try clear hcz17_5
              try clear hcz17_6
              try clear hcz17_7
              try clear hcz20_0
              try clear hcz20_1
              try clear hcz20_2
              try clear hcz20_3
              try clear hcz20_4
              try clear hcz20_5
              try clear hcz20_6
              try clear hcz20_7
              try clear hfz13_0
              try clear hfz13_1
              try clear hfz13_2
              try clear hfz13_3
              try clear hfz13_4
              try clear hfz13_5
              try clear hfz13_6
              try clear hfz13_7
              try clear hfz17_0
              try clear hfz17_1
              try clear hfz17_2
              try clear hfz17_3
              try clear hfz17_4
              try clear hfz17_5
              try clear hfz17_6
              try clear hfz17_7
              try clear hfz20_0
              try clear hfz20_1
              try clear hfz20_2
              try clear hfz20_3
              try clear hfz20_4
              try clear hfz20_5
              try clear hfz20_6
              try clear hfz20_7
              try clear hx112_0
              try clear hx112_1
              try clear hx112_2
              try clear hx112_3
              try clear hx112_4
              try clear hx112_5
              try clear hx112_6
              try clear hx112_7
              try clear p112
              try clear p2
              try clear q112
              obtain ⟨kq, x28_8, rfl, HA, HJ8, HO_8, HO_104000, HO_104001, BK102, BK103, BK113, HB⟩ := hcut
              cases kq with
              | zero => exact absurd HA.out (by simp [view_Field.j1])
              | succ kj8 =>
                have H := HA.out
                clear HA
                simp only [view_Field.j1] at H
                by_cases c21 : x28_8 = true
                · subst c21
                  have H1 : (view_Field.l0 kj8 a1 a2 x8_1 l0 (l0.length : Int) (wrap64 (x15_1 + 1)) x104000_1 x104001_1 0 false) = some (r1, r2, r3, r4) := by rw [if_pos rfl] at H; exact H
                  clear H
                  have H := H1
                  clear H1
                  have H' := Aside0.mk H
                  clear H
                  go_wp2
                  go_roundg kj8
                  case measure => have := HK1.out; have := HJ8.out; omega
                  case rel => exact ⟨(x8_1), (wrap64 (x15_1 + 1)), (x104000_1), (x104001_1), (u104000), (u104001), (by first | rfl | (simp; done) | (simp [*]; done)), H', ⟨by have := HK1.out; have := HJ8.out; omega⟩, ⟨by (with_reducible repeat (first | apply Kd.R_alloc | apply Kd.R_drewN | apply Kd.R_drew)); exact HO_8.out⟩, ⟨by (with_reducible repeat (first | apply Kd.R_alloc | apply Kd.R_drewN | apply Kd.R_drew)); exact HO_104000.out⟩, ⟨by (with_reducible repeat (first | apply Kd.R_alloc | apply Kd.R_drewN | apply Kd.R_drew)); exact HO_104001.out⟩, ⟨by (with_reducible repeat (first | refine blk_drewN ?_ _ | refine blk_drew ?_ | refine blk_alloc ?_ _)); exact BK102.out⟩, ⟨by (with_reducible repeat (first | refine blk_drewN ?_ _ | refine blk_drew ?_ | refine blk_alloc ?_ _)); exact BK103.out⟩, ⟨by repeat (first | (with_reducible first | exact HB.out | apply below_alloc | apply pw_below_drewN | apply below_drew1 | refine below_set ?_ GE102.out | refine below_set ?_ GE103.out | refine below_set ?_ GE113.out) | exact HB.out)⟩⟩
                · replace c21 := Bool.eq_false_iff.mpr c21
                  subst c21
                  have H1 : (if ((rd_T26 l0 x15_1).f2) = 1 then (if x104000_1.length < 8796093022208 then (view_Field.l0 kj8 a1 a2 x8_1 l0 (l0.length : Int) (wrap64 (x15_1 + 1)) (x104000_1 ++ [((rd_T26 l0 x15_1).f3)]) x104001_1 0 false) else (none)) else (if ((rd_T26 l0 x15_1).f2) = 2 then (if x104001_1.length < 8796093022208 then (view_Field.l0 kj8 a1 a2 x8_1 l0 (l0.length : Int) (wrap64 (x15_1 + 1)) x104000_1 (x104001_1 ++ [((rd_T26 l0 x15_1).f3)]) 0 false) else (none)) else (if ((rd_T26 l0 x15_1).f2) = 3 then (if x8_1.length < 17592186044416 then (view_Field.l0 kj8 a1 a2 (x8_1 ++ [((rd_T26 l0 x15_1).f4)]) l0 (l0.length : Int) (wrap64 (x15_1 + 1)) x104000_1 x104001_1 0 false) else (none)) else (view_Field.l0 kj8 a1 a2 x8_1 l0 (l0.length : Int) (wrap64 (x15_1 + 1)) x104000_1 x104001_1 0 false)))) = some (r1, r2, r3, r4) := by rw [if_neg (show ¬ (false = true) by decide)] at H; exact H
                  clear H
                  have H := H1
                  clear H1
                  by_cases c22 : ((rd_T26 l0 x15_1).f2) = 1
                  · rw [if_pos c22] at H
                    have c22b0 : (((rd_T26 l0 x15_1).f2) == 1) = true := beq_iff_eq.mpr c22
                    have c22b1 : (((rd_T26 l0 x15_1).f2) != 1) = false := bne_eq_false_iff_eq.mpr c22
                    clear c22
                    by_cases c23 : x104000_1.length < 8796093022208
                    · rw [if_pos c23] at H
                      have LMc23 := Aside0.mk c23
                      clear c23
                      obtain ⟨y114, hy114⟩ : ∃ y_ : List ByteArray, y_ = (x104000_1 ++ [((rd_T26 l0 x15_1).f3)]) := ⟨_, rfl⟩
                      replace H : (view_Field.l0 kj8 a1 a2 x8_1 l0 (l0.length : Int) (wrap64 (x15_1 + 1)) y114 x104001_1 0 false) = some (r1, r2, r3, r4) := by first | (rw [hy114]; with_reducible exact H) | (have H2_ := (Option.bind_some _ _).symm.trans H; rw [hy114]; with_reducible exact H2_) | (have H2_ := (Option.bind_some _ _).symm.trans H; with_reducible exact H2_) | with_reducible exact H | (rw [hy114]; exact H) | exact H
                      have Ny114 := Aside0.mk hy114
                      clear hy114
                      have H' := Aside0.mk H
                      clear H
                      have hnb24 := NB113_102.out
                      have hnc24 := NB102_113.out
                      have hnb25 := NB113_103.out
                      have hnc25 := NB103_113.out
                      have hcz26_0 : wc.cell? ⟨gb113, 0, none⟩ = some (.string ((rd_T26 l0 x15_1).f0)) := (blk_cell BK113.out 0).trans rfl
                      have hcz26_1 : wc.cell? ⟨gb113, 1, none⟩ = some (.string ((rd_T26 l0 x15_1).f1)) := (blk_cell BK113.out 1).trans rfl
                      have hcz26_2 : wc.cell? ⟨gb113, 2, none⟩ = some (.int .i64 ((rd_T26 l0 x15_1).f2)) := (blk_cell BK113.out 2).trans rfl
                      have hcz26_3 : wc.cell? ⟨gb113, 3, none⟩ = some (.string ((rd_T26 l0 x15_1).f3)) := (blk_cell BK113.out 3).trans rfl
                      have hcz26_4 : wc.cell? ⟨gb113, 4, none⟩ = some (.int .i64 ((rd_T26 l0 x15_1).f4)) := (blk_cell BK113.out 4).trans rfl
                      have hcz26_5 : wc.cell? ⟨gb113, 5, none⟩ = some (.int .i64 ((rd_T26 l0 x15_1).f5.f0)) := (blk_cell BK113.out 5).trans rfl
                      have hcz26_6 : wc.cell? ⟨gb113, 6, none⟩ = some (.int .i64 ((rd_T26 l0 x15_1).f5.f1)) := (blk_cell BK113.out 6).trans rfl
                      have hcz26_7 : wc.cell? ⟨gb113, 7, none⟩ = some (.int .i64 ((rd_T26 l0 x15_1).f5.f2)) := (blk_cell BK113.out 7).trans rfl
                      have hfz26_0 := blk_frozen BK113.out 0
                      have hfz26_1 := blk_frozen BK113.out 1
                      have hfz26_2 := blk_frozen BK113.out 2
                      have hfz26_3 := blk_frozen BK113.out 3
                      have hfz26_4 := blk_frozen BK113.out 4
                      have hfz26_5 := blk_frozen BK113.out 5
                      have hfz26_6 := blk_frozen BK113.out 6
                      have hfz26_7 := blk_frozen BK113.out 7
                      have hnb27 := NB103_102.out
                      have hnc27 := NB102_103.out
                      have hcz28_0 : wc.cell? ⟨gb103, 0, none⟩ = some (u104000) := (blk_cell BK103.out 0).trans rfl
                      have hcz28_1 : wc.cell? ⟨gb103, 1, none⟩ = some (u104001) := (blk_cell BK103.out 1).trans rfl
                      have hcz28_2 : wc.cell? ⟨gb103, 2, none⟩ = some (.int .i64 0) := (blk_cell BK103.out 2).trans rfl
                      have hcz28_3 : wc.cell? ⟨gb103, 3, none⟩ = some (.bool false) := (blk_cell BK103.out 3).trans rfl
                      have hfz28_0 := blk_frozen BK103.out 0
                      have hfz28_1 := blk_frozen BK103.out 1
                      have hfz28_2 := blk_frozen BK103.out 2
                      have hfz28_3 := blk_frozen BK103.out 3
                      go_wp2_with (first | ((with_reducible refine gate_builtin (b := .append) (xs := #[.tmp 34, .tmp 37]) rfl ?_); at_builtin; refine Kd.R_append Kd.string (w0 := w) w.heap.size rfl (.tmp 34) (.tmp 37) 29 9 (.string ⟨#[]⟩) 16 rfl Try.underlying29 info9 rfl (by decide) (by omega) u104000 x104000_1 ((rd_T26 l0 x15_1).f3) [.string ((rd_T26 l0 x15_1).f3)] (fun k_ => some k_ ≠ (u104001 : Value).ownBlock) (fun _ => False) rfl rfl ?aP (fun _ hk => hk.elim) ?aF ?aO ?aB ?aS ?aL ?_; (case aP => exact rfl); (case aB => exact (by repeat (first | (with_reducible first | exact HB.out | apply below_alloc | apply pw_below_drewN | apply below_drew1 | refine below_set ?_ GE102.out | refine below_set ?_ GE103.out | refine below_set ?_ GE113.out) | exact HB.out))); (case aF => exact (fun k_ hk => Kd.fresh' (Kd.R_lt (by (with_reducible repeat (first | apply Kd.R_alloc | apply Kd.R_drewN | apply Kd.R_drew)); exact HO_104001.out)) k_ hk)); (case aO => exact (by (with_reducible repeat (first | apply Kd.R_alloc | apply Kd.R_drewN | apply Kd.R_drew)); exact HO_104000.out)); (case aS => exact (below_size (by repeat (first | (with_reducible first | exact HB.out | apply below_alloc | apply pw_below_drewN | apply below_drew1 | refine below_set ?_ GE102.out | refine below_set ?_ GE103.out | refine below_set ?_ GE113.out) | exact HB.out)))); (case aL => have := LMc23.out; omega); intro v115 w29 ho hb hg hat; rw [← Ny114.out] at ho; have n0_ := Aside0.mk (Kd.R_over' (by (with_reducible repeat (first | apply Kd.R_alloc | apply Kd.R_drewN | apply Kd.R_drew)); exact HO_8.out) (Kd.R_typed (by (with_reducible repeat (first | apply Kd.R_alloc | apply Kd.R_drewN | apply Kd.R_drew)); exact HO_104000.out)) (by decide) hg); have n1_ := Aside0.mk (Kd.R_after (ok := (fun _ => True)) (by (with_reducible repeat (first | apply Kd.R_alloc | apply Kd.R_drewN | apply Kd.R_drew)); exact Kd.R_mono HO_104001.out (fun _ hk => ⟨trivial, hk⟩)) hg hat); have n2_ := Aside0.mk (blk_grown (g := gb102) (o := .cells #[.slice none 0 0, .slice none 0 0, .int .i64 0, .bool false] 31 (0, 0)) (by (with_reducible repeat (first | refine blk_drewN ?_ _ | refine blk_drew ?_ | refine blk_alloc ?_ _)); exact BK102.out) hg (Kd.R_ne HO_104000.out BK102.out (by decide))); have n3_ := Aside0.mk (blk_grown (g := gb103) (o := .cells #[u104000, u104001, .int .i64 0, .bool false] 31 (0, 0)) (by (with_reducible repeat (first | refine blk_drewN ?_ _ | refine blk_drew ?_ | refine blk_alloc ?_ _)); exact BK103.out) hg (Kd.R_ne HO_104000.out BK103.out (by decide))); have n4_ := Aside0.mk (blk_grown (g := gb113) (o := .cells #[.string ((rd_T26 l0 x15_1).f0), .string ((rd_T26 l0 x15_1).f1), .int .i64 ((rd_T26 l0 x15_1).f2), .string ((rd_T26 l0 x15_1).f3), .int .i64 ((rd_T26 l0 x15_1).f4), .int .i64 ((rd_T26 l0 x15_1).f5.f0), .int .i64 ((rd_T26 l0 x15_1).f5.f1), .int .i64 ((rd_T26 l0 x15_1).f5.f2)] 26 (0, 0)) (by (with_reducible repeat (first | refine blk_drewN ?_ _ | refine blk_drew ?_ | refine blk_alloc ?_ _)); exact BK113.out) hg (Kd.R_ne HO_104000.out BK113.out (by decide))); have n5_ := Aside0.mk (hb); have n6_ := Aside0.mk (ho); clear HO_8; clear HO_104001; clear BK102; clear BK103; clear BK113; clear HB; clear HO_104000; have HO_8 := n0_; have HO_104001 := n1_; have BK102 := n2_; have BK103 := n3_; have BK113 := n4_; have HB := n5_; have HO116 := n6_; clear n0_ n1_ n2_ n3_ n4_ n5_ n6_; clear ho hb hg hat; obtain ⟨Ao30, co30, eo30⟩ := Kd.R_slice HO116.out; subst eo30; have hcz31_0 : w29.cell? ⟨gb103, 0, none⟩ = some (u104000) := (blk_cell BK103.out 0).trans rfl; have hcz31_1 : w29.cell? ⟨gb103, 1, none⟩ = some (u104001) := (blk_cell BK103.out 1).trans rfl; have hcz31_2 : w29.cell? ⟨gb103, 2, none⟩ = some (.int .i64 0) := (blk_cell BK103.out 2).trans rfl; have hcz31_3 : w29.cell? ⟨gb103, 3, none⟩ = some (.bool false) := (blk_cell BK103.out 3).trans rfl; have hfz31_0 := blk_frozen BK103.out 0; have hfz31_1 := blk_frozen BK103.out 1; have hfz31_2 := blk_frozen BK103.out 2; have hfz31_3 := blk_frozen BK103.out 3))
                      go_roundg kj8
                      case measure => have := HK1.out; have := HJ8.out; omega
                      case rel => exact ⟨(x8_1), (wrap64 (x15_1 + 1)), (y114), (x104001_1), (.slice Ao30 y114.length co30), (u104001), (by first | rfl | (simp; done) | (simp [*]; done)), H', ⟨by have := HK1.out; have := HJ8.out; omega⟩, ⟨by (with_reducible repeat (first | apply Kd.R_alloc | apply Kd.R_drewN | apply Kd.R_drew)); exact Kd.R_mono (Kd.R_far (p := ⟨gb103, 0, none⟩) (Kd.R_types HO_8.out BK103.out (by decide)) (fun _ hk => hk.2) (.slice Ao30 y114.length co30)) (fun _ hk => trivial)⟩, ⟨by (with_reducible repeat (first | apply Kd.R_alloc | apply Kd.R_drewN | apply Kd.R_drew)); exact Kd.R_mono (Kd.R_far (p := ⟨gb103, 0, none⟩) (Kd.R_types HO116.out BK103.out (by decide)) (fun _ hk => hk.2) (.slice Ao30 y114.length co30)) (fun _ hk => hk.1)⟩, ⟨by (with_reducible repeat (first | apply Kd.R_alloc | apply Kd.R_drewN | apply Kd.R_drew)); exact Kd.R_mono (Kd.R_far (p := ⟨gb103, 0, none⟩) (Kd.R_types HO_104001.out BK103.out (by decide)) (fun _ hk => hk.2) (.slice Ao30 y114.length co30)) (fun _ hk => hk.1.2)⟩, ⟨by (with_reducible repeat (first | refine blk_drewN ?_ _ | refine blk_drew ?_ | refine blk_alloc ?_ _)); refine blk_far ?_ NB102_103.out _; (with_reducible repeat (first | refine blk_drewN ?_ _ | refine blk_drew ?_ | refine blk_alloc ?_ _)); exact BK102.out⟩, ⟨by (with_reducible repeat (first | refine blk_drewN ?_ _ | refine blk_drew ?_ | refine blk_alloc ?_ _)); refine blk_put (cs := #[u104000, u104001, .int .i64 0, .bool false]) ?_ 0 _ rfl; (with_reducible repeat (first | refine blk_drewN ?_ _ | refine blk_drew ?_ | refine blk_alloc ?_ _)); exact BK103.out⟩, ⟨by repeat (first | (with_reducible first | exact HB.out | apply below_alloc | apply pw_below_drewN | apply below_drew1 | refine below_set ?_ GE102.out | refine below_set ?_ GE103.out | refine below_set ?_ GE113.out) | exact HB.out)⟩⟩
                    · rw [if_neg c23] at H
                      exact absurd H (by simp)
                  · rw [if_neg c22] at H
                    have c22b0 : (((rd_T26 l0 x15_1).f2) == 1) = false := beq_eq_false_iff_ne.mpr c22
                    have c22b1 : (((rd_T26 l0 x15_1).f2) != 1) = true := bne_iff_ne.mpr c22
                    by_cases c32 : ((rd_T26 l0 x15_1).f2) = 2
                    · rw [if_pos c32] at H
                      have c32b0 : (((rd_T26 l0 x15_1).f2) == 2) = true := beq_iff_eq.mpr c32
                      have c32b1 : (((rd_T26 l0 x15_1).f2) != 2) = false := bne_eq_false_iff_eq.mpr c32
                      clear c32
                      by_cases c33 : x104001_1.length < 8796093022208
                      · rw [if_pos c33] at H
                        have LMc33 := Aside0.mk c33
                        clear c33
                        obtain ⟨y117, hy117⟩ : ∃ y_ : List ByteArray, y_ = (x104001_1 ++ [((rd_T26 l0 x15_1).f3)]) := ⟨_, rfl⟩
                        replace H : (view_Field.l0 kj8 a1 a2 x8_1 l0 (l0.length : Int) (wrap64 (x15_1 + 1)) x104000_1 y117 0 false) = some (r1, r2, r3, r4) := by first | (rw [hy117]; with_reducible exact H) | (have H2_ := (Option.bind_some _ _).symm.trans H; rw [hy117]; with_reducible exact H2_) | (have H2_ := (Option.bind_some _ _).symm.trans H; with_reducible exact H2_) | with_reducible exact H | (rw [hy117]; exact H) | exact H
                        have Ny117 := Aside0.mk hy117
                        clear hy117
                        have H' := Aside0.mk H
                        clear H
                        have hnb34 := NB113_102.out
                        have hnc34 := NB102_113.out
                        have hnb35 := NB113_103.out
                        have hnc35 := NB103_113.out
                        have hcz36_0 : wc.cell? ⟨gb113, 0, none⟩ = some (.string ((rd_T26 l0 x15_1).f0)) := (blk_cell BK113.out 0).trans rfl
                        have hcz36_1 : wc.cell? ⟨gb113, 1, none⟩ = some (.string ((rd_T26 l0 x15_1).f1)) := (blk_cell BK113.out 1).trans rfl
                        have hcz36_2 : wc.cell? ⟨gb113, 2, none⟩ = some (.int .i64 ((rd_T26 l0 x15_1).f2)) := (blk_cell BK113.out 2).trans rfl
                        have hcz36_3 : wc.cell? ⟨gb113, 3, none⟩ = some (.string ((rd_T26 l0 x15_1).f3)) := (blk_cell BK113.out 3).trans rfl
                        have hcz36_4 : wc.cell? ⟨gb113, 4, none⟩ = some (.int .i64 ((rd_T26 l0 x15_1).f4)) := (blk_cell BK113.out 4).trans rfl
                        have hcz36_5 : wc.cell? ⟨gb113, 5, none⟩ = some (.int .i64 ((rd_T26 l0 x15_1).f5.f0)) := (blk_cell BK113.out 5).trans rfl
                        have hcz36_6 : wc.cell? ⟨gb113, 6, none⟩ = some (.int .i64 ((rd_T26 l0 x15_1).f5.f1)) := (blk_cell BK113.out 6).trans rfl
                        have hcz36_7 : wc.cell? ⟨gb113, 7, none⟩ = some (.int .i64 ((rd_T26 l0 x15_1).f5.f2)) := (blk_cell BK113.out 7).trans rfl
                        have hfz36_0 := blk_frozen BK113.out 0
                        have hfz36_1 := blk_frozen BK113.out 1
                        have hfz36_2 := blk_frozen BK113.out 2
                        have hfz36_3 := blk_frozen BK113.out 3
                        have hfz36_4 := blk_frozen BK113.out 4
                        have hfz36_5 := blk_frozen BK113.out 5
                        have hfz36_6 := blk_frozen BK113.out 6
                        have hfz36_7 := blk_frozen BK113.out 7
                        have hnb37 := NB103_102.out
                        have hnc37 := NB102_103.out
                        have hcz38_0 : wc.cell? ⟨gb103, 0, none⟩ = some (u104000) := (blk_cell BK103.out 0).trans rfl
                        have hcz38_1 : wc.cell? ⟨gb103, 1, none⟩ = some (u104001) := (blk_cell BK103.out 1).trans rfl
                        have hcz38_2 : wc.cell? ⟨gb103, 2, none⟩ = some (.int .i64 0) := (blk_cell BK103.out 2).trans rfl
                        have hcz38_3 : wc.cell? ⟨gb103, 3, none⟩ = some (.bool false) := (blk_cell BK103.out 3).trans rfl
                        have hfz38_0 := blk_frozen BK103.out 0
                        have hfz38_1 := blk_frozen BK103.out 1
                        have hfz38_2 := blk_frozen BK103.out 2
                        have hfz38_3 := blk_frozen BK103.out 3
                        go_wp2_with (first | ((with_reducible refine gate_builtin (b := .append) (xs := #[.tmp 43, .tmp 46]) rfl ?_); at_builtin; refine Kd.R_append Kd.string (w0 := w) w.heap.size rfl (.tmp 43) (.tmp 46) 29 9 (.string ⟨#[]⟩) 16 rfl Try.underlying29 info9 rfl (by decide) (by omega) u104001 x104001_1 ((rd_T26 l0 x15_1).f3) [.string ((rd_T26 l0 x15_1).f3)] (fun k_ => some k_ ≠ (u104000 : Value).ownBlock) (fun _ => False) rfl rfl ?aP (fun _ hk => hk.elim) ?aF ?aO ?aB ?aS ?aL ?_; (case aP => exact rfl); (case aB => exact (by repeat (first | (with_reducible first | exact HB.out | apply below_alloc | apply pw_below_drewN | apply below_drew1 | refine below_set ?_ GE102.out | refine below_set ?_ GE103.out | refine below_set ?_ GE113.out) | exact HB.out))); (case aF => exact (fun k_ hk => Kd.fresh' (Kd.R_lt (by (with_reducible repeat (first | apply Kd.R_alloc | apply Kd.R_drewN | apply Kd.R_drew)); exact HO_104000.out)) k_ hk)); (case aO => exact (by (with_reducible repeat (first | apply Kd.R_alloc | apply Kd.R_drewN | apply Kd.R_drew)); exact HO_104001.out)); (case aS => exact (below_size (by repeat (first | (with_reducible first | exact HB.out | apply below_alloc | apply pw_below_drewN | apply below_drew1 | refine below_set ?_ GE102.out | refine below_set ?_ GE103.out | refine below_set ?_ GE113.out) | exact HB.out)))); (case aL => have := LMc33.out; omega); intro v118 w39 ho hb hg hat; rw [← Ny117.out] at ho; have n0_ := Aside0.mk (Kd.R_over' (by (with_reducible repeat (first | apply Kd.R_alloc | apply Kd.R_drewN | apply Kd.R_drew)); exact HO_8.out) (Kd.R_typed (by (with_reducible repeat (first | apply Kd.R_alloc | apply Kd.R_drewN | apply Kd.R_drew)); exact HO_104001.out)) (by decide) hg); have n1_ := Aside0.mk (Kd.R_after (ok := (fun _ => True)) (by (with_reducible repeat (first | apply Kd.R_alloc | apply Kd.R_drewN | apply Kd.R_drew)); exact Kd.R_mono HO_104000.out (fun _ hk => ⟨trivial, hk⟩)) hg hat); have n2_ := Aside0.mk (blk_grown (g := gb102) (o := .cells #[.slice none 0 0, .slice none 0 0, .int .i64 0, .bool false] 31 (0, 0)) (by (with_reducible repeat (first | refine blk_drewN ?_ _ | refine blk_drew ?_ | refine blk_alloc ?_ _)); exact BK102.out) hg (Kd.R_ne HO_104001.out BK102.out (by decide))); have n3_ := Aside0.mk (blk_grown (g := gb103) (o := .cells #[u104000, u104001, .int .i64 0, .bool false] 31 (0, 0)) (by (with_reducible repeat (first | refine blk_drewN ?_ _ | refine blk_drew ?_ | refine blk_alloc ?_ _)); exact BK103.out) hg (Kd.R_ne HO_104001.out BK103.out (by decide))); have n4_ := Aside0.mk (blk_grown (g := gb113) (o := .cells #[.string ((rd_T26 l0 x15_1).f0), .string ((rd_T26 l0 x15_1).f1), .int .i64 ((rd_T26 l0 x15_1).f2), .string ((rd_T26 l0 x15_1).f3), .int .i64 ((rd_T26 l0 x15_1).f4), .int .i64 ((rd_T26 l0 x15_1).f5.f0), .int .i64 ((rd_T26 l0 x15_1).f5.f1), .int .i64 ((rd_T26 l0 x15_1).f5.f2)] 26 (0, 0)) (by (with_reducible repeat (first | refine blk_drewN ?_ _ | refine blk_drew ?_ | refine blk_alloc ?_ _)); exact BK113.out) hg (Kd.R_ne HO_104001.out BK113.out (by decide))); have n5_ := Aside0.mk (hb); have n6_ := Aside0.mk (ho); clear HO_8; clear HO_104000; clear BK102; clear BK103; clear BK113; clear HB; clear HO_104001; have HO_8 := n0_; have HO_104000 := n1_; have BK102 := n2_; have BK103 := n3_; have BK113 := n4_; have HB := n5_; have HO119 := n6_; clear n0_ n1_ n2_ n3_ n4_ n5_ n6_; clear ho hb hg hat; obtain ⟨Ao40, co40, eo40⟩ := Kd.R_slice HO119.out; subst eo40; have hcz41_0 : w39.cell? ⟨gb103, 0, none⟩ = some (u104000) := (blk_cell BK103.out 0).trans rfl; have hcz41_1 : w39.cell? ⟨gb103, 1, none⟩ = some (u104001) := (blk_cell BK103.out 1).trans rfl; have hcz41_2 : w39.cell? ⟨gb103, 2, none⟩ = some (.int .i64 0) := (blk_cell BK103.out 2).trans rfl; have hcz41_3 : w39.cell? ⟨gb103, 3, none⟩ = some (.bool false) := (blk_cell BK103.out 3).trans rfl; have hfz41_0 := blk_frozen BK103.out 0; have hfz41_1 := blk_frozen BK103.out 1; have hfz41_2 := blk_frozen BK103.out 2; have hfz41_3 := blk_frozen BK103.out 3))
                        go_roundg kj8
                        case measure => have := HK1.out; have := HJ8.out; omega
                        case rel => exact ⟨(x8_1), (wrap64 (x15_1 + 1)), (x104000_1), (y117), (u104000), (.slice Ao40 y117.length co40), (by first | rfl | (simp; done) | (simp [*]; done)), H', ⟨by have := HK1.out; have := HJ8.out; omega⟩, ⟨by (with_reducible repeat (first | apply Kd.R_alloc | apply Kd.R_drewN | apply Kd.R_drew)); exact Kd.R_mono (Kd.R_far (p := ⟨gb103, 1, none⟩) (Kd.R_types HO_8.out BK103.out (by decide)) (fun _ hk => hk.2) (.slice Ao40 y117.length co40)) (fun _ hk => trivial)⟩, ⟨by (with_reducible repeat (first | apply Kd.R_alloc | apply Kd.R_drewN | apply Kd.R_drew)); exact Kd.R_mono (Kd.R_far (p := ⟨gb103, 1, none⟩) (Kd.R_types HO_104000.out BK103.out (by decide)) (fun _ hk => hk.2) (.slice Ao40 y117.length co40)) (fun _ hk => hk.1.2)⟩, ⟨by (with_reducible repeat (first | apply Kd.R_alloc | apply Kd.R_drewN | apply Kd.R_drew)); exact Kd.R_mono (Kd.R_far (p := ⟨gb103, 1, none⟩) (Kd.R_types HO119.out BK103.out (by decide)) (fun _ hk => hk.2) (.slice Ao40 y117.length co40)) (fun _ hk => hk.1)⟩, ⟨by (with_reducible repeat (first | refine blk_drewN ?_ _ | refine blk_drew ?_ | refine blk_alloc ?_ _)); refine blk_far ?_ NB102_103.out _; (with_reducible repeat (first | refine blk_drewN ?_ _ | refine blk_drew ?_ | refine blk_alloc ?_ _)); exact BK102.out⟩, ⟨by (with_reducible repeat (first | refine blk_drewN ?_ _ | refine blk_drew ?_ | refine blk_alloc ?_ _)); refine blk_put (cs := #[u104000, u104001, .int .i64 0, .bool false]) ?_ 1 _ rfl; (with_reducible repeat (first | refine blk_drewN ?_ _ | refine blk_drew ?_ | refine blk_alloc ?_ _)); exact BK103.out⟩, ⟨by repeat (first | (with_reducible first | exact HB.out | apply below_alloc | apply pw_below_drewN | apply below_drew1 | refine below_set ?_ GE102.out | refine below_set ?_ GE103.out | refine below_set ?_ GE113.out) | exact HB.out)⟩⟩
                      · rw [if_neg c33] at H
                        exact absurd H (by simp)
                    · rw [if_neg c32] at H
                      have c32b0 : (((rd_T26 l0 x15_1).f2) == 2) = false := beq_eq_false_iff_ne.mpr c32
                      have c32b1 : (((rd_T26 l0 x15_1).f2) != 2) = true := bne_iff_ne.mpr c32
                      by_cases c42 : ((rd_T26 l0 x15_1).f2) = 3
                      · rw [if_pos c42] at H
                        have c42b0 : (((rd_T26 l0 x15_1).f2) == 3) = true := beq_iff_eq.mpr c42
                        have c42b1 : (((rd_T26 l0 x15_1).f2) != 3) = false := bne_eq_false_iff_eq.mpr c42
                        clear c42
                        by_cases c43 : x8_1.length < 17592186044416
                        · rw [if_pos c43] at H
                          have LMc43 := Aside0.mk c43
                          clear c43
                          obtain ⟨y120, hy120⟩ : ∃ y_ : List Int, y_ = (x8_1 ++ [((rd_T26 l0 x15_1).f4)]) := ⟨_, rfl⟩
                          replace H : (view_Field.l0 kj8 a1 a2 y120 l0 (l0.length : Int) (wrap64 (x15_1 + 1)) x104000_1 x104001_1 0 false) = some (r1, r2, r3, r4) := by first | (rw [hy120]; with_reducible exact H) | (have H2_ := (Option.bind_some _ _).symm.trans H; rw [hy120]; with_reducible exact H2_) | (have H2_ := (Option.bind_some _ _).symm.trans H; with_reducible exact H2_) | with_reducible exact H | (rw [hy120]; exact H) | exact H
                          have Ny120 := Aside0.mk hy120
                          clear hy120
                          have H' := Aside0.mk H
                          clear H
                          have hnb44 := NB113_102.out
                          have hnc44 := NB102_113.out
                          have hnb45 := NB113_103.out
                          have hnc45 := NB103_113.out
                          have hcz46_0 : wc.cell? ⟨gb113, 0, none⟩ = some (.string ((rd_T26 l0 x15_1).f0)) := (blk_cell BK113.out 0).trans rfl
                          have hcz46_1 : wc.cell? ⟨gb113, 1, none⟩ = some (.string ((rd_T26 l0 x15_1).f1)) := (blk_cell BK113.out 1).trans rfl
                          have hcz46_2 : wc.cell? ⟨gb113, 2, none⟩ = some (.int .i64 ((rd_T26 l0 x15_1).f2)) := (blk_cell BK113.out 2).trans rfl
                          have hcz46_3 : wc.cell? ⟨gb113, 3, none⟩ = some (.string ((rd_T26 l0 x15_1).f3)) := (blk_cell BK113.out 3).trans rfl
                          have hcz46_4 : wc.cell? ⟨gb113, 4, none⟩ = some (.int .i64 ((rd_T26 l0 x15_1).f4)) := (blk_cell BK113.out 4).trans rfl
                          have hcz46_5 : wc.cell? ⟨gb113, 5, none⟩ = some (.int .i64 ((rd_T26 l0 x15_1).f5.f0)) := (blk_cell BK113.out 5).trans rfl
                          have hcz46_6 : wc.cell? ⟨gb113, 6, none⟩ = some (.int .i64 ((rd_T26 l0 x15_1).f5.f1)) := (blk_cell BK113.out 6).trans rfl
                          have hcz46_7 : wc.cell? ⟨gb113, 7, none⟩ = some (.int .i64 ((rd_T26 l0 x15_1).f5.f2)) := (blk_cell BK113.out 7).trans rfl
                          have hfz46_0 := blk_frozen BK113.out 0
                          have hfz46_1 := blk_frozen BK113.out 1
                          have hfz46_2 := blk_frozen BK113.out 2
                          have hfz46_3 := blk_frozen BK113.out 3
                          have hfz46_4 := blk_frozen BK113.out 4
                          have hfz46_5 := blk_frozen BK113.out 5
                          have hfz46_6 := blk_frozen BK113.out 6
                          have hfz46_7 := blk_frozen BK113.out 7
                          go_wp2_with (first | ((with_reducible refine gate_builtin (b := .append) (xs := #[.tmp 51, .tmp 54]) rfl ?_); at_builtin; refine Kd.R_append (Kd.int .i64) (w0 := w) w.heap.size rfl (.tmp 51) (.tmp 54) 67 2 (.int .i64 0) 8 rfl Try.underlying67 info2 rfl (by decide) (by omega) u8 x8_1 ((rd_T26 l0 x15_1).f4) [.int .i64 ((rd_T26 l0 x15_1).f4)] (fun _ => True) (fun _ => False) rfl rfl ?aP (fun _ hk => hk.elim) ?aF ?aO ?aB ?aS ?aL ?_; (case aP => exact rfl); (case aB => exact (by repeat (first | (with_reducible first | exact HB.out | apply below_alloc | apply pw_below_drewN | apply below_drew1 | refine below_set ?_ GE102.out | refine below_set ?_ GE103.out | refine below_set ?_ GE113.out) | exact HB.out))); (case aF => exact (fun _ _ => trivial)); (case aO => exact (by (with_reducible repeat (first | apply Kd.R_alloc | apply Kd.R_drewN | apply Kd.R_drew)); exact HO_8.out)); (case aS => exact (below_size (by repeat (first | (with_reducible first | exact HB.out | apply below_alloc | apply pw_below_drewN | apply below_drew1 | refine below_set ?_ GE102.out | refine below_set ?_ GE103.out | refine below_set ?_ GE113.out) | exact HB.out)))); (case aL => have := LMc43.out; omega); intro v121 w47 ho hb hg hat; rw [← Ny120.out] at ho; have n0_ := Aside0.mk (Kd.R_over' (by (with_reducible repeat (first | apply Kd.R_alloc | apply Kd.R_drewN | apply Kd.R_drew)); exact HO_104000.out) (Kd.R_typed (by (with_reducible repeat (first | apply Kd.R_alloc | apply Kd.R_drewN | apply Kd.R_drew)); exact HO_8.out)) (by decide) hg); have n1_ := Aside0.mk (Kd.R_over' (by (with_reducible repeat (first | apply Kd.R_alloc | apply Kd.R_drewN | apply Kd.R_drew)); exact HO_104001.out) (Kd.R_typed (by (with_reducible repeat (first | apply Kd.R_alloc | apply Kd.R_drewN | apply Kd.R_drew)); exact HO_8.out)) (by decide) hg); have n2_ := Aside0.mk (blk_grown (g := gb102) (o := .cells #[.slice none 0 0, .slice none 0 0, .int .i64 0, .bool false] 31 (0, 0)) (by (with_reducible repeat (first | refine blk_drewN ?_ _ | refine blk_drew ?_ | refine blk_alloc ?_ _)); exact BK102.out) hg (Kd.R_ne HO_8.out BK102.out (by decide))); have n3_ := Aside0.mk (blk_grown (g := gb103) (o := .cells #[u104000, u104001, .int .i64 0, .bool false] 31 (0, 0)) (by (with_reducible repeat (first | refine blk_drewN ?_ _ | refine blk_drew ?_ | refine blk_alloc ?_ _)); exact BK103.out) hg (Kd.R_ne HO_8.out BK103.out (by decide))); have n4_ := Aside0.mk (blk_grown (g := gb113) (o := .cells #[.string ((rd_T26 l0 x15_1).f0), .string ((rd_T26 l0 x15_1).f1), .int .i64 ((rd_T26 l0 x15_1).f2), .string ((rd_T26 l0 x15_1).f3), .int .i64 ((rd_T26 l0 x15_1).f4), .int .i64 ((rd_T26 l0 x15_1).f5.f0), .int .i64 ((rd_T26 l0 x15_1).f5.f1), .int .i64 ((rd_T26 l0 x15_1).f5.f2)] 26 (0, 0)) (by (with_reducible repeat (first | refine blk_drewN ?_ _ | refine blk_drew ?_ | refine blk_alloc ?_ _)); exact BK113.out) hg (Kd.R_ne HO_8.out BK113.out (by decide))); have n5_ := Aside0.mk (hb); have n6_ := Aside0.mk (ho); clear HO_104000; clear HO_104001; clear BK102; clear BK103; clear BK113; clear HB; clear HO_8; have HO_104000 := n0_; have HO_104001 := n1_; have BK102 := n2_; have BK103 := n3_; have BK113 := n4_; have HB := n5_; have HO122 := n6_; clear n0_ n1_ n2_ n3_ n4_ n5_ n6_; clear ho hb hg hat))
                          go_roundg kj8
                          case measure => have := HK1.out; have := HJ8.out; omega
                          case rel => exact ⟨(y120), (wrap64 (x15_1 + 1)), (x104000_1), (x104001_1), (u104000), (u104001), (by first | rfl | (simp; done) | (simp [*]; done)), H', ⟨by have := HK1.out; have := HJ8.out; omega⟩, ⟨by (with_reducible repeat (first | apply Kd.R_alloc | apply Kd.R_drewN | apply Kd.R_drew)); exact HO122.out⟩, ⟨by (with_reducible repeat (first | apply Kd.R_alloc | apply Kd.R_drewN | apply Kd.R_drew)); exact HO_104000.out⟩, ⟨by (with_reducible repeat (first | apply Kd.R_alloc | apply Kd.R_drewN | apply Kd.R_drew)); exact HO_104001.out⟩, ⟨by (with_reducible repeat (first | refine blk_drewN ?_ _ | refine blk_drew ?_ | refine blk_alloc ?_ _)); exact BK102.out⟩, ⟨by (with_reducible repeat (first | refine blk_drewN ?_ _ | refine blk_drew ?_ | refine blk_alloc ?_ _)); exact BK103.out⟩, ⟨by repeat (first | (with_reducible first | exact HB.out | apply below_alloc | apply pw_below_drewN | apply below_drew1 | refine below_set ?_ GE102.out | refine below_set ?_ GE103.out | refine below_set ?_ GE113.out) | exact HB.out)⟩⟩
                        · rw [if_neg c43] at H
                          exact absurd H (by simp)
                      · rw [if_neg c42] at H
                        have c42b0 : (((rd_T26 l0 x15_1).f2) == 3) = false := beq_eq_false_iff_ne.mpr c42
                        have c42b1 : (((rd_T26 l0 x15_1).f2) != 3) = true := bne_iff_ne.mpr c42
                        have H' := Aside0.mk H
                        clear H
                        have hnb48 := NB113_102.out
                        have hnc48 := NB102_113.out
                        have hnb49 := NB113_103.out
                        have hnc49 := NB103_113.out
                        have hcz50_0 : wc.cell? ⟨gb113, 0, none⟩ = some (.string ((rd_T26 l0 x15_1).f0)) := (blk_cell BK113.out 0).trans rfl
                        have hcz50_1 : wc.cell? ⟨gb113, 1, none⟩ = some (.string ((rd_T26 l0 x15_1).f1)) := (blk_cell BK113.out 1).trans rfl
                        have hcz50_2 : wc.cell? ⟨gb113, 2, none⟩ = some (.int .i64 ((rd_T26 l0 x15_1).f2)) := (blk_cell BK113.out 2).trans rfl
                        have hcz50_3 : wc.cell? ⟨gb113, 3, none⟩ = some (.string ((rd_T26 l0 x15_1).f3)) := (blk_cell BK113.out 3).trans rfl
                        have hcz50_4 : wc.cell? ⟨gb113, 4, none⟩ = some (.int .i64 ((rd_T26 l0 x15_1).f4)) := (blk_cell BK113.out 4).trans rfl
                        have hcz50_5 : wc.cell? ⟨gb113, 5, none⟩ = some (.int .i64 ((rd_T26 l0 x15_1).f5.f0)) := (blk_cell BK113.out 5).trans rfl
                        have hcz50_6 : wc.cell? ⟨gb113, 6, none⟩ = some (.int .i64 ((rd_T26 l0 x15_1).f5.f1)) := (blk_cell BK113.out 6).trans rfl
                        have hcz50_7 : wc.cell? ⟨gb113, 7, none⟩ = some (.int .i64 ((rd_T26 l0 x15_1).f5.f2)) := (blk_cell BK113.out 7).trans rfl
                        have hfz50_0 := blk_frozen BK113.out 0
                        have hfz50_1 := blk_frozen BK113.out 1
                        have hfz50_2 := blk_frozen BK113.out 2
                        have hfz50_3 := blk_frozen BK113.out 3
                        have hfz50_4 := blk_frozen BK113.out 4
                        have hfz50_5 := blk_frozen BK113.out 5
                        have hfz50_6 := blk_frozen BK113.out 6
                        have hfz50_7 := blk_frozen BK113.out 7
                        go_wp2
                        go_roundg kj8
                        case measure => have := HK1.out; have := HJ8.out; omega
                        case rel => exact ⟨(x8_1), (wrap64 (x15_1 + 1)), (x104000_1), (x104001_1), (u104000), (u104001), (by first | rfl | (simp; done) | (simp [*]; done)), H', ⟨by have := HK1.out; have := HJ8.out; omega⟩, ⟨by (with_reducible repeat (first | apply Kd.R_alloc | apply Kd.R_drewN | apply Kd.R_drew)); exact HO_8.out⟩, ⟨by (with_reducible repeat (first | apply Kd.R_alloc | apply Kd.R_drewN | apply Kd.R_drew)); exact HO_104000.out⟩, ⟨by (with_reducible repeat (first | apply Kd.R_alloc | apply Kd.R_drewN | apply Kd.R_drew)); exact HO_104001.out⟩, ⟨by (with_reducible repeat (first | refine blk_drewN ?_ _ | refine blk_drew ?_ | refine blk_alloc ?_ _)); exact BK102.out⟩, ⟨by (with_reducible repeat (first | refine blk_drewN ?_ _ | refine blk_drew ?_ | refine blk_alloc ?_ _)); exact BK103.out⟩, ⟨by repeat (first | (with_reducible first | exact HB.out | apply below_alloc | apply pw_below_drewN | apply below_drew1 | refine below_set ?_ GE102.out | refine below_set ?_ GE103.out | refine below_set ?_ GE113.out) | exact HB.out)⟩⟩
          · rw [if_neg c8] at H
            exact absurd H (by simp)
        · rw [if_neg c7] at H
          exact absurd H (by simp)
      · rw [if_neg c6] at H
        have c6b0 : decide (x15_1 < (l0.length : Int)) = false := decide_eq_false c6
        clear c6
        replace H := Option.bind_eq_some_iff.mp H
        obtain ⟨t104, A510, H⟩ := H
        replace H : ((view_once.f x104001_1).bind fun t107 => ((num_Total.f k1 x8_1).bind fun bt110 => (some (t104, t107, bt110.1, (bt110.2 != 0))))) = some (r1, r2, r3, r4) := H
        have A51 := Aside0.mk A510
        clear A510
        replace H := Option.bind_eq_some_iff.mp H
        obtain ⟨t107, A520, H⟩ := H
        replace H : ((num_Total.f k1 x8_1).bind fun bt110 => (some (t104, t107, bt110.1, (bt110.2 != 0)))) = some (r1, r2, r3, r4) := H
        have A52 := Aside0.mk A520
        clear A520
        replace H := Option.bind_eq_some_iff.mp H
        obtain ⟨⟨t110, t111⟩, A530, H⟩ := H
        replace H : (some (t104, t107, t110, (t111 != 0))) = some (r1, r2, r3, r4) := H
        have A53 := Aside0.mk A530
        clear A530
        simp only [Option.some.injEq, Prod.mk.injEq] at H
        obtain ⟨rfl, rfl, rfl, rfl⟩ := H
        try go_wp2
        have n0_ := Aside0.mk (Kd.R_drew HO_8.out)
        have n1_ := Aside0.mk (Kd.R_drew HO_104000.out)
        have n2_ := Aside0.mk (Kd.R_drew HO_104001.out)
        have n3_ := Aside0.mk (blk_drew BK102.out)
        have n4_ := Aside0.mk (blk_drew BK103.out)
        have n5_ := Aside0.mk (below_drew1 HB.out)
        clear HO_8
        clear HO_104000
        clear HO_104001
        clear BK102
        clear BK103
        clear HB
        have HO_8 := n0_
        have HO_104000 := n1_
        have HO_104001 := n2_
        have BK102 := n3_
        have BK103 := n4_
        have HB := n5_
        clear n0_ n1_ n2_ n3_ n4_ n5_
        obtain ⟨Ao55, co55, eo55⟩ := Kd.R_slice HO_104000.out
        (first | subst eo55 | (injection eo55 with f1_ f2_ f3_; have f4_ := f1_.symm; have f5_ := f3_.symm; clear f1_ f2_ f3_; subst f4_; subst f5_))
        refine start_ (n := 10) (S := fun w' => w'.cell? ⟨gb103, 0, none⟩ = some (.slice Ao55 x104000_1.length co55) ∧ w'.cell? ⟨gb103, 1, none⟩ = some (u104001) ∧ w'.cell? ⟨gb103, 2, none⟩ = some (.int .i64 0) ∧ w'.cell? ⟨gb103, 3, none⟩ = some (.bool false)) (ds := [7, 9]) #[false, false, false, false, false, false, false, false, false, false] (by kernel_rfl) rfl rfl ⟨(blk_cell BK103.out 0).trans rfl, (blk_cell BK103.out 1).trans rfl, (blk_cell BK103.out 2).trans rfl, (blk_cell BK103.out 3).trans rfl⟩ (fun hHeld => ?_); refine with_tabW view_Field.tab15 view_Field.bits15 (fun HT_ HW_ => ?_)
        generalize wr.drew = w54 at HO_8 HO_104000 HO_104001 BK102 BK103 HB hHeld ⊢
        refine pure_ (i := 0) (N := some 57) (v := ?_) (a' := ?_) #[true, false, false, false, false, false, false, false, false, false] rfl rfl (any_of HT_.out (by kernel_rfl)) (fun _ _ _ h => h) (Or.inl ⟨by rfl, ?_⟩) ?_ ?_
        rotate_left
        · intro w'
          go_simp
          with_reducible rfl
        rotate_left
        · simp only [Act.put, List.setIfInBounds_toArray, List.set_cons_zero, List.set_cons_succ, i64_w, i32_w]
          rfl
        refine pure_ (i := 3) (N := some 60) (v := ?_) (a' := ?_) #[true, false, false, true, false, false, false, false, false, false] rfl rfl (any_of HT_.out (by kernel_rfl)) (fun _ _ _ h => h) (Or.inl ⟨by rfl, ?_⟩) ?_ ?_
        rotate_left
        · intro w'
          go_simp
          with_reducible rfl
        rotate_left
        · simp only [Act.put, List.setIfInBounds_toArray, List.set_cons_zero, List.set_cons_succ, i64_w, i32_w]
          rfl
        refine take_ (i := 1) (N := some 58) (v := ?_) (a' := ?_) #[true, true, false, true, false, false, false, false, false, false] rfl rfl (take_ofW HT_.out HW_.out (by kernel_rfl)) (fun _ _ _ h => h) (Or.inl ⟨by rfl, ?_⟩) hHeld ?_ ?_
        rotate_left
        · rintro w' ⟨s0, s1, s2, s3⟩
          go_simp
          with_reducible rfl
        rotate_left
        · simp only [Act.put, List.setIfInBounds_toArray, List.set_cons_zero, List.set_cons_succ, i64_w, i32_w]
          rfl
        refine take_ (i := 4) (N := some 61) (v := ?_) (a' := ?_) #[true, true, false, true, true, false, false, false, false, false] rfl rfl (take_ofW HT_.out HW_.out (by kernel_rfl)) (fun _ _ _ h => h) (Or.inl ⟨by rfl, ?_⟩) hHeld ?_ ?_
        rotate_left
        · rintro w' ⟨s0, s1, s2, s3⟩
          go_simp
          with_reducible rfl
        rotate_left
        · simp only [Act.put, List.setIfInBounds_toArray, List.set_cons_zero, List.set_cons_succ, i64_w, i32_w]
          rfl
        refine one_ (i := 2) (N := some 59) #[true, true, true, true, true, false, false, false, false, false] rfl rfl (one_of HT_.out (by kernel_rfl)) (by decide) (fun K hK => ?_)
        refine goes_ Try.func62 (by kernel_rfl) rfl #[.slice Ao55 x104000_1.length co55] (by rfl) rfl rfl (by (try simp only [List.map_toArray, List.map_cons, List.map_nil]); first | done | rfl | (simp only [List.length_drop, List.length_take]; rfl)) ?_
        with_reducible refine (view_once.calls (fun k_ => some k_ = (.slice Ao55 x104000_1.length co55 : Value).ownBlock) (.slice Ao55 x104000_1.length co55) x104000_1 t104 w _ ?side1 ?side2 A51.out).mono ?_
        (case side1 => repeat (first | (with_reducible first | exact HB.out | apply below_alloc | apply pw_below_drewN | apply below_drew1 | refine below_set ?_ GE102.out | refine below_set ?_ GE103.out) | exact HB.out))
        (case side2 => exact Kd.R_tight rfl HO_104000.out)
        rintro e w56 ⟨v105, rfl, ho0, hb, hkp⟩
        refine ⟨_, rfl, ?_⟩
        have n0_ := Aside0.mk (Kd.R_mono (ok' := fun k_ => True) (Kd.R_keptB ((Kd.R_apart' HO_8.out (Kd.R_typed HO_104000.out) (by decide))) hkp (fun k_ hk_ hs_ => (hk_.2) hs_)) (fun k_ hk_ => trivial))
        have n1_ := Aside0.mk (Kd.R_mono (ok' := fun k_ => some k_ ≠ (v105 : Value).ownBlock) (Kd.R_keptB (HO_104001.out) hkp (fun k_ hk_ hs_ => (hk_) hs_)) (fun k_ hk_ => fun e_ => Or.elim (ho0.1 k_ e_.symm) (fun hs_ => hk_.2.1 hs_) (fun hn_ => Nat.not_le.2 hk_.2.2 hn_)))
        have n2_ := Aside0.mk (blk_kept (by (with_reducible repeat (first | refine blk_drewN ?_ _ | refine blk_drew ?_ | refine blk_alloc ?_ _)); exact BK102.out) hkp (fun hs_ => (fun e_ => (Kd.R_ne HO_104000.out BK102.out (by decide)) e_) hs_))
        have n3_ := Aside0.mk (blk_kept (by (with_reducible repeat (first | refine blk_drewN ?_ _ | refine blk_drew ?_ | refine blk_alloc ?_ _)); exact BK103.out) hkp (fun hs_ => (fun e_ => (Kd.R_ne HO_104000.out BK103.out (by decide)) e_) hs_))
        have n4_ := Aside0.mk (Kd.R_mono (ok' := fun k_ => some k_ ≠ (u104001 : Value).ownBlock) ho0 (fun k_ hk_ => Or.elim hk_ (fun hs_ => fun e_ => (((HO_104001.out).1 k_ e_.symm)) hs_) (fun hn_ => (Kd.fresh' (Kd.R_lt (by (with_reducible repeat (first | apply Kd.R_alloc | apply Kd.R_drewN | apply Kd.R_drew)); exact HO_104001.out)) k_ hn_))))
        have n5_ := Aside0.mk (hb)
        clear HO_8
        clear HO_104001
        clear BK102
        clear BK103
        clear HB
        clear HO_104000
        have HO_8 := n0_
        have HO_104001 := n1_
        have BK102 := n2_
        have BK103 := n3_
        have HO106 := n4_
        have HB := n5_
        clear n0_ n1_ n2_ n3_ n4_ n5_
        (try clear hb)
        (try clear hkp)
        (try clear ho0)
        obtain ⟨Ao57, co57, eo57⟩ := Kd.R_slice HO_104001.out
        (first | subst eo57 | (injection eo57 with f1_ f2_ f3_; have f4_ := f1_.symm; have f5_ := f3_.symm; clear f1_ f2_ f3_; subst f4_; subst f5_))
        refine hK.out _ _ ⟨(blk_cell BK103.out 0).trans rfl, (blk_cell BK103.out 1).trans rfl, (blk_cell BK103.out 2).trans rfl, (blk_cell BK103.out 3).trans rfl⟩ (fun hHeld => ?_)
        clear hK K
        refine norm_ (a' := ?_) ?_ ?_
        rotate_left
        · show Act.put _ (some 59) _ = _
          simp only [Act.put, List.setIfInBounds_toArray, List.set_cons_zero, List.set_cons_succ, i64_w, i32_w]
          rfl
        refine pure_ (i := 6) (N := some 63) (v := ?_) (a' := ?_) #[true, true, true, true, true, false, true, false, false, false] rfl rfl (any_of HT_.out (by kernel_rfl)) (fun _ _ _ h => h) (Or.inl ⟨by rfl, ?_⟩) ?_ ?_
        rotate_left
        · intro w'
          go_simp
          with_reducible rfl
        rotate_left
        · simp only [Act.put, List.setIfInBounds_toArray, List.set_cons_zero, List.set_cons_succ, i64_w, i32_w]
          rfl
        refine one_ (i := 5) (N := some 62) #[true, true, true, true, true, true, true, false, false, false] rfl rfl (one_of HT_.out (by kernel_rfl)) (by decide) (fun K hK => ?_)
        refine goes_ Try.func62 (by kernel_rfl) rfl #[.slice Ao57 x104001_1.length co57] (by rfl) rfl rfl (by (try simp only [List.map_toArray, List.map_cons, List.map_nil]); first | done | rfl | (simp only [List.length_drop, List.length_take]; rfl)) ?_
        with_reducible refine (view_once.calls (fun k_ => some k_ = (.slice Ao57 x104001_1.length co57 : Value).ownBlock) (.slice Ao57 x104001_1.length co57) x104001_1 t107 w _ ?side1 ?side2 A52.out).mono ?_
        (case side1 => repeat (first | (with_reducible first | exact HB.out | apply below_alloc | apply pw_below_drewN | apply below_drew1 | refine below_set ?_ GE102.out | refine below_set ?_ GE103.out) | exact HB.out))
        (case side2 => exact Kd.R_tight rfl HO_104001.out)
        rintro e w58 ⟨v108, rfl, ho0, hb, hkp⟩
        refine ⟨_, rfl, ?_⟩
        have n0_ := Aside0.mk (Kd.R_mono (ok' := fun k_ => True) (Kd.R_keptB ((Kd.R_apart' HO_8.out (Kd.R_typed HO_104001.out) (by decide))) hkp (fun k_ hk_ hs_ => (hk_.2) hs_)) (fun k_ hk_ => trivial))
        have n1_ := Aside0.mk (blk_kept (by (with_reducible repeat (first | refine blk_drewN ?_ _ | refine blk_drew ?_ | refine blk_alloc ?_ _)); exact BK102.out) hkp (fun hs_ => (fun e_ => (Kd.R_ne HO_104001.out BK102.out (by decide)) e_) hs_))
        have n2_ := Aside0.mk (blk_kept (by (with_reducible repeat (first | refine blk_drewN ?_ _ | refine blk_drew ?_ | refine blk_alloc ?_ _)); exact BK103.out) hkp (fun hs_ => (fun e_ => (Kd.R_ne HO_104001.out BK103.out (by decide)) e_) hs_))
        have n3_ := Aside0.mk (Kd.R_mono (ok' := fun k_ => some k_ ≠ (v108 : Value).ownBlock) (Kd.R_keptB (HO106.out) hkp (fun k_ hk_ hs_ => (hk_) hs_)) (fun k_ hk_ => fun e_ => Or.elim (ho0.1 k_ e_.symm) (fun hs_ => hk_.2.1 hs_) (fun hn_ => Nat.not_le.2 hk_.2.2 hn_)))
        have n4_ := Aside0.mk (Kd.R_mono (ok' := fun k_ => some k_ ≠ (v105 : Value).ownBlock) ho0 (fun k_ hk_ => Or.elim hk_ (fun hs_ => fun e_ => (((HO106.out).1 k_ e_.symm)) hs_) (fun hn_ => (Kd.fresh' (Kd.R_lt (by (with_reducible repeat (first | apply Kd.R_alloc | apply Kd.R_drewN | apply Kd.R_drew)); exact HO106.out)) k_ hn_))))
        have n5_ := Aside0.mk (hb)
        clear HO_8
        clear BK102
        clear BK103
        clear HO106
        clear HB
        clear HO_104001
        have HO_8 := n0_
        have BK102 := n1_
        have BK103 := n2_
        have HO106 := n3_
        have HO109 := n4_
        have HB := n5_
        clear n0_ n1_ n2_ n3_ n4_ n5_
        (try clear hb)
        (try clear hkp)
        (try clear ho0)
        obtain ⟨Ao59, co59, eo59⟩ := Kd.R_slice HO106.out
        (first | subst eo59 | (injection eo59 with f1_ f2_ f3_; have f4_ := f1_.symm; have f5_ := f3_.symm; clear f1_ f2_ f3_; subst f4_; subst f5_))
        obtain ⟨Ao61, co61, eo61⟩ := Kd.R_slice HO109.out
        (first | subst eo61 | (injection eo61 with f1_ f2_ f3_; have f4_ := f1_.symm; have f5_ := f3_.symm; clear f1_ f2_ f3_; subst f4_; subst f5_))
        refine hK.out _ _ ⟨(blk_cell BK103.out 0).trans rfl, (blk_cell BK103.out 1).trans rfl, (blk_cell BK103.out 2).trans rfl, (blk_cell BK103.out 3).trans rfl⟩ (fun hHeld => ?_)
        clear hK K
        refine norm_ (a' := ?_) ?_ ?_
        rotate_left
        · show Act.put _ (some 62) _ = _
          simp only [Act.put, List.setIfInBounds_toArray, List.set_cons_zero, List.set_cons_succ, i64_w, i32_w]
          rfl
        refine last_ (i := 7) (N := none) #[true, true, true, true, true, true, true, true, false, false] rfl rfl (one_of HT_.out (by kernel_rfl)) (by decide) (fun K hK => ?_)
        have hs60 : w58.cell? ⟨gb103, 0, none⟩ = some (.slice Ao55 x104000_1.length co55) := (blk_cell BK103.out 0).trans rfl
        have hfs60 := blk_frozen BK103.out 0
        have hns60_0 := NB102_103.out
        have hms60_0 := NB103_102.out
        refine skip_ (w1 := ?_) (by rfl) rfl ?_ ?_
        rotate_left
        · go_simp
          rfl
        refine hK.out _ _ ?_
        clear hK K
        refine pure_ (i := 8) (N := some 64) (v := ?_) (a' := ?_) #[true, true, true, true, true, true, true, true, true, false] rfl rfl (any_of HT_.out (by kernel_rfl)) (fun _ _ _ h => h) (Or.inl ⟨by rfl, ?_⟩) ?_ ?_
        rotate_left
        · intro w'
          go_simp
          with_reducible rfl
        rotate_left
        · simp only [Act.put, List.setIfInBounds_toArray, List.set_cons_zero, List.set_cons_succ, i64_w, i32_w]
          rfl
        refine last_ (i := 9) (N := none) #[true, true, true, true, true, true, true, true, true, true] rfl rfl (one_of HT_.out (by kernel_rfl)) (by decide) (fun K hK => ?_)
        have hs62 : w58.cell? ⟨gb103, 1, none⟩ = some (.slice Ao57 x104001_1.length co57) := (blk_cell BK103.out 1).trans rfl
        have hfs62 := blk_frozen BK103.out 1
        have hns62_0 := NB102_103.out
        have hms62_0 := NB103_102.out
        refine skip_ (w1 := ?_) (by rfl) rfl ?_ ?_
        rotate_left
        · go_simp
          rfl
        refine hK.out _ _ ?_
        clear hK K
        refine done_ (done_of HT_.out (by kernel_rfl)) ?_
        obtain ⟨Ao63, co63, eo63⟩ := Kd.R_slice HO_8.out
        subst eo63
        try go_wp2_with (first | ((with_reducible refine gate_callee (f := 63) rfl ?_); refine goesL_ (some 67) rfl rfl Try.func63 (by kernel_rfl) rfl #[.slice Ao63 x8_1.length co63] rfl (by (try simp only [List.map_toArray, List.map_cons, List.map_nil]); first | done | rfl | (simp only [List.length_drop, List.length_take]; rfl)) ?_; (with_reducible refine (num_Total.calls k1 _ _ x8_1 t110 t111 _ ?side1 ?side2 A53.out).mono ?_); (case side1 => refine (Kd.R_reads' (e := 2) (base := w.heap.size) (ok := fun k_ => True) (n := x8_1.length) (c := co63) ?_).2.2; exact (by (with_reducible repeat (first | apply Kd.R_alloc | apply Kd.R_drewN | apply Kd.R_drew)); exact (Kd.R_mono (Kd.R_far (p := ⟨gb103, 1, none⟩) (Kd.R_far (p := ⟨gb103, 0, none⟩) (Kd.R_types HO_8.out BK103.out (by decide)) (fun _ hk => hk.2) (.slice Ao59 t104.length co59)) (fun _ hk => hk.2) (.slice Ao61 t107.length co61)) (fun _ h_ => h_.1)))); (case side2 => exact (Kd.R_reads' HO_8.out).2.1); rintro e w' ⟨rfl, ⟨nd, rfl⟩⟩; refine ⟨_, rfl, ?_⟩; have hnb64 := NB103_102.out; have hnc64 := NB102_103.out; have hcz65_0 : w58.cell? ⟨gb103, 0, none⟩ = some (.slice Ao55 x104000_1.length co55) := (blk_cell BK103.out 0).trans rfl; have hcz65_1 : w58.cell? ⟨gb103, 1, none⟩ = some (.slice Ao57 x104001_1.length co57) := (blk_cell BK103.out 1).trans rfl; have hcz65_2 : w58.cell? ⟨gb103, 2, none⟩ = some (.int .i64 0) := (blk_cell BK103.out 2).trans rfl; have hcz65_3 : w58.cell? ⟨gb103, 3, none⟩ = some (.bool false) := (blk_cell BK103.out 3).trans rfl; have hfz65_0 := blk_frozen BK103.out 0; have hfz65_1 := blk_frozen BK103.out 1; have hfz65_2 := blk_frozen BK103.out 2; have hfz65_3 := blk_frozen BK103.out 3; have hcz66_0 : w58.cell? ⟨gb102, 0, none⟩ = some (.slice none 0 0) := (blk_cell BK102.out 0).trans rfl; have hcz66_1 : w58.cell? ⟨gb102, 1, none⟩ = some (.slice none 0 0) := (blk_cell BK102.out 1).trans rfl; have hcz66_2 : w58.cell? ⟨gb102, 2, none⟩ = some (.int .i64 0) := (blk_cell BK102.out 2).trans rfl; have hcz66_3 : w58.cell? ⟨gb102, 3, none⟩ = some (.bool false) := (blk_cell BK102.out 3).trans rfl; have hfz66_0 := blk_frozen BK102.out 0; have hfz66_1 := blk_frozen BK102.out 1; have hfz66_2 := blk_frozen BK102.out 2; have hfz66_3 := blk_frozen BK102.out 3))
        refine bodyPost_ret (results_cell_row rfl _ _ gb102 31 #[.slice Ao59 t104.length co59, .slice Ao61 t107.length co61, .int .i64 t110, .bool (t111 != 0)] (0, 0) _ rfl (by (with_reducible repeat (first | refine blk_drewN ?_ _ | refine blk_drew ?_ | refine blk_alloc ?_ _)); refine blk_put (cs := #[.slice Ao59 t104.length co59, .slice Ao61 t107.length co61, .int .i64 t110, .bool false]) ?_ 3 _ rfl; (with_reducible repeat (first | refine blk_drewN ?_ _ | refine blk_drew ?_ | refine blk_alloc ?_ _)); refine blk_put (cs := #[.slice Ao59 t104.length co59, .slice Ao61 t107.length co61, .int .i64 0, .bool false]) ?_ 2 _ rfl; (with_reducible repeat (first | refine blk_drewN ?_ _ | refine blk_drew ?_ | refine blk_alloc ?_ _)); refine blk_put (cs := #[.slice Ao59 t104.length co59, .slice none 0 0, .int .i64 0, .bool false]) ?_ 1 _ rfl; (with_reducible repeat (first | refine blk_drewN ?_ _ | refine blk_drew ?_ | refine blk_alloc ?_ _)); refine blk_put (cs := #[.slice none 0 0, .slice none 0 0, .int .i64 0, .bool false]) ?_ 0 _ rfl; (with_reducible repeat (first | refine blk_drewN ?_ _ | refine blk_drew ?_ | refine blk_alloc ?_ _)); refine blk_far ?_ NB102_103.out _; (with_reducible repeat (first | refine blk_drewN ?_ _ | refine blk_drew ?_ | refine blk_alloc ?_ _)); refine blk_far ?_ NB102_103.out _; (with_reducible repeat (first | refine blk_drewN ?_ _ | refine blk_drew ?_ | refine blk_alloc ?_ _)); refine blk_far ?_ NB102_103.out _; (with_reducible repeat (first | refine blk_drewN ?_ _ | refine blk_drew ?_ | refine blk_alloc ?_ _)); refine blk_far ?_ NB102_103.out _; (with_reducible repeat (first | refine blk_drewN ?_ _ | refine blk_drew ?_ | refine blk_alloc ?_ _)); exact BK102.out) Try.underlying31 rfl (by kernel_rfl)) rfl ?_
        exact ⟨_, _, by first | rfl | (simp [errW_none, errW_some] <;> rfl) | (simp [*, errW_none, errW_some] <;> rfl), by (with_reducible repeat (first | apply Kd.R_alloc | apply Kd.R_drewN | apply Kd.R_drew)); exact Kd.R_mono (Kd.R_far (p := ⟨gb102, 3, none⟩) (Kd.R_far (p := ⟨gb102, 2, none⟩) (Kd.R_far (p := ⟨gb102, 1, none⟩) (Kd.R_far (p := ⟨gb102, 0, none⟩) (Kd.R_far (p := ⟨gb103, 3, none⟩) (Kd.R_far (p := ⟨gb103, 2, none⟩) (Kd.R_far (p := ⟨gb103, 1, none⟩) (Kd.R_far (p := ⟨gb103, 0, none⟩) (Kd.R_types (Kd.R_types HO106.out BK103.out (by decide)) BK102.out (by decide)) (fun _ hk => hk.1.2) (.slice Ao59 t104.length co59)) (fun _ hk => hk.1.2) (.slice Ao61 t107.length co61)) (fun _ hk => hk.1.2) (.int .i64 t110)) (fun _ hk => hk.1.2) (.bool (t111 != 0))) (fun _ hk => hk.2) (.slice Ao59 t104.length co59)) (fun _ hk => hk.2) (.slice Ao61 t107.length co61)) (fun _ hk => hk.2) (.int .i64 t110)) (fun _ hk => hk.2) (.bool (t111 != 0))) (fun _ hk => hk.1.1), by (with_reducible repeat (first | apply Kd.R_alloc | apply Kd.R_drewN | apply Kd.R_drew)); exact Kd.R_mono (Kd.R_far (p := ⟨gb102, 3, none⟩) (Kd.R_far (p := ⟨gb102, 2, none⟩) (Kd.R_far (p := ⟨gb102, 1, none⟩) (Kd.R_far (p := ⟨gb102, 0, none⟩) (Kd.R_far (p := ⟨gb103, 3, none⟩) (Kd.R_far (p := ⟨gb103, 2, none⟩) (Kd.R_far (p := ⟨gb103, 1, none⟩) (Kd.R_far (p := ⟨gb103, 0, none⟩) (Kd.R_types (Kd.R_types HO109.out BK103.out (by decide)) BK102.out (by decide)) (fun _ hk => hk.1.2) (.slice Ao59 t104.length co59)) (fun _ hk => hk.1.2) (.slice Ao61 t107.length co61)) (fun _ hk => hk.1.2) (.int .i64 t110)) (fun _ hk => hk.1.2) (.bool (t111 != 0))) (fun _ hk => hk.2) (.slice Ao59 t104.length co59)) (fun _ hk => hk.2) (.slice Ao61 t107.length co61)) (fun _ hk => hk.2) (.int .i64 t110)) (fun _ hk => hk.2) (.bool (t111 != 0))) (fun _ hk => hk.1.1), by repeat (first | (with_reducible first | exact HB.out | apply below_alloc | apply pw_below_drewN | apply below_drew1 | refine below_set ?_ GE102.out | refine below_set ?_ GE103.out) | exact HB.out)⟩
end Go.Proofs.Ytciiodbkhilkmaa.F
