/- ItemParts, part 32: F25. -/
import Derived.OrdersHeld
import Derived.Deep.RegionHeld3
import Derived.Laws.BitsLemmas
import Derived.RowKit
import Derived.Test.YtciiodbkhilkmaaProg
import Derived.WalkKit
import Derived.Below
import Derived.Deep.Draws
import Derived.Deep.AppendLies
import Derived.Maps.AppendAt
import Derived.OwnWalk
import Derived.Laws.BytesArg
import Derived.Laws.MakeOwn
import Derived.Laws.OwnMore
import Derived.Deep.OwnRows
import Derived.Tactics
import Derived.Lib.ConvBytes
import Derived.Laws.Slices
import Derived.KernelRfl
import Derived.RowKit3
import Derived.Deep.LoopGhost
import Derived.Deep.QuietTactic
import Derived.BigQuiet
import Derived.WideLaws
import Derived.Deep.DeepCutAuto
import Derived.Deep.CutBlock
import Derived.Laws.Rows
import Derived.Lib.AppendStr
import Derived.ArgAppend
import Derived.Laws.IdiomCopy
import Derived.Laws.StructEq
import Derived.Test.YtciiodbkhilkmaaQItemParts0
import Derived.Test.YtciiodbkhilkmaaQItemParts1
import Derived.Test.YtciiodbkhilkmaaQItemParts2
import Derived.Test.YtciiodbkhilkmaaQItemParts25
import Derived.Test.YtciiodbkhilkmaaQItemParts31
namespace Go.Proofs.Ytciiodbkhilkmaa.F
open Go.RowKit Go.Proofs.YtciiodbkhilkmaaW.PrintWords Go.Proofs.YtciiodbkhilkmaaW.PrintLast Go.Proofs.YtciiodbkhilkmaaW.PrintMore
attribute [local go_sem] max2_int min2_int max_two min_two max_three min_three max_four min_four
set_option linter.unusedVariables false
set_option linter.unusedSimpArgs false
mutual
def item_Formed.j0 : Nat → Bool → ByteArray → ByteArray → Int → ByteArray → Int → Int → Int → Int → Option (Bool)
  | 0, _, _, _, _, _, _, _, _, _ => none
  | k + 1, x24, x446000, x446001, x446002, x446003, x446004, x446005, x446006, x446007 => if x24 = true then (some false) else (if x446002 = 1 then (item_Formed.j1 k x446002 (x446002 == 1) x446000 x446001 x446002 x446003 x446004 x446005 x446006 x446007) else (item_Formed.j1 k x446002 (x446002 == 2) x446000 x446001 x446002 x446003 x446004 x446005 x446006 x446007))
def item_Formed.j1 : Nat → Int → Bool → ByteArray → ByteArray → Int → ByteArray → Int → Int → Int → Int → Option (Bool)
  | 0, _, _, _, _, _, _, _, _, _, _ => none
  | k + 1, x26, x27, x446000, x446001, x446002, x446003, x446004, x446005, x446006, x446007 => if x27 = true then (if x446004 = 0 then (if x446005 ≥ 0 then (if x446005 < 8 then (if x446006 ≥ 1 then (if x446006 ≤ 1073741824 then (if x446007 ≥ 0 then (some (decide (x446007 < 8))) else (some false)) else (some false)) else (some false)) else (some false)) else (some false)) else (some false)) else (if x26 = 3 then (if x446003.toList = ([] : List UInt8) then (if x446005 ≥ 0 then (if x446005 < 8 then (if x446006 ≥ 1 then (if x446006 ≤ 1073741824 then (if x446007 ≥ 0 then (some (decide (x446007 < 8))) else (some false)) else (some false)) else (some false)) else (some false)) else (some false)) else (some false)) else (some false))
end
def item_Formed.f (k : Nat) (a0_0 : ByteArray) (a0_1 : ByteArray) (a0_2 : Int) (a0_3 : ByteArray) (a0_4 : Int) (a0_5 : Int) (a0_6 : Int) (a0_7 : Int) : Option (Bool) := (zone_Key.f k a0_0).bind fun t446 => (if t446 = true then (if a0_1.toList = ([] : List UInt8) then (item_Formed.j0 k (decide ((a0_3.size : Int) > 32)) a0_0 a0_1 a0_2 a0_3 a0_4 a0_5 a0_6 a0_7) else ((zone_Key.f k a0_1).bind fun t447 => (if t447 = true then (item_Formed.j0 k (decide ((a0_3.size : Int) > 32)) a0_0 a0_1 a0_2 a0_3 a0_4 a0_5 a0_6 a0_7) else (item_Formed.j0 k true a0_0 a0_1 a0_2 a0_3 a0_4 a0_5 a0_6 a0_7)))) else (item_Formed.j0 k true a0_0 a0_1 a0_2 a0_3 a0_4 a0_5 a0_6 a0_7))
set_option maxHeartbeats 8000000 in
set_option maxRecDepth 100000 in
theorem item_Formed.calls (k : Nat) (a0_0 : ByteArray) (a0_1 : ByteArray) (a0_2 : Int) (a0_3 : ByteArray) (a0_4 : Int) (a0_5 : Int) (a0_6 : Int) (a0_7 : Int) (r : Bool) (w : World) (h : item_Formed.f k a0_0 a0_1 a0_2 a0_3 a0_4 a0_5 a0_6 a0_7 = some r) :
    Calls Try.prog 53 #[.agg #[.string a0_0, .string a0_1, .int .i64 a0_2, .string a0_3, .int .i64 a0_4, .int .i64 a0_5, .int .i64 a0_6, .int .i64 a0_7]] w fun e w' => e = .returned (.bool r) ∧ Below w.heap.size w w' := by
  have hu26 := Try.underlying26
  have hu24 := Try.underlying24
  have HB := Aside0.mk (Below.refl w.heap.size w)
  have H : ((zone_Key.f k a0_0).bind fun t446 => (if t446 = true then (if a0_1.toList = ([] : List UInt8) then (item_Formed.j0 k (decide ((a0_3.size : Int) > 32)) a0_0 a0_1 a0_2 a0_3 a0_4 a0_5 a0_6 a0_7) else ((zone_Key.f k a0_1).bind fun t447 => (if t447 = true then (item_Formed.j0 k (decide ((a0_3.size : Int) > 32)) a0_0 a0_1 a0_2 a0_3 a0_4 a0_5 a0_6 a0_7) else (item_Formed.j0 k true a0_0 a0_1 a0_2 a0_3 a0_4 a0_5 a0_6 a0_7)))) else (item_Formed.j0 k true a0_0 a0_1 a0_2 a0_3 a0_4 a0_5 a0_6 a0_7))) = some r := h
  clear h
  have HC2 := Aside0.mk H
  clear H
  go_enter Try.func53, Try.ntmps53
  go_upto_region 1 with (first | ((with_reducible refine gate_dst (N := 1) rfl ?_); (try (refine gate_guard (by rfl) ?_; dsimp only)); refine box_event ?hg (N := 1) ?hd (cs := #[.string a0_0, .string a0_1, .int .i64 a0_2, .string a0_3, .int .i64 a0_4, .int .i64 a0_5, .int .i64 a0_6, .int .i64 a0_7]) (t := 26) ?hr ?_; (case hd => rfl); (case hg => rfl); (case hr => first | (go_simp; done) | (go_simp; rfl)); intro gb445 hg w3 hbox hb; have n0_ := Aside0.mk (below_step (by repeat (first | (with_reducible first | exact HB.out | apply below_alloc | apply pw_below_drewN | apply below_drew1) | exact HB.out)) hb); have n1_ := Aside0.mk (hbox); have n2_ := Aside0.mk ((by rw [hg]; exact (below_size (by repeat (first | (with_reducible first | exact HB.out | apply below_alloc | apply pw_below_drewN | apply below_drew1) | exact HB.out))) : w.heap.size ≤ gb445)); have n3_ := Aside0.mk ((by rw [hg]; exact (below_size (by repeat (first | (with_reducible first | exact HB.out | apply below_alloc | apply pw_below_drewN | apply below_drew1) | exact HB.out))) : w.heap.size ≤ gb445)); clear HB; have HB := n0_; have BK445 := n1_; have GW445 := n2_; have GE445 := n3_; clear n0_ n1_ n2_ n3_; clear hb hbox hg))
  (try simp only [Act.put, List.setIfInBounds_toArray, List.set_cons_zero, List.set_cons_succ])
  go_cut [24] (fun v24 wc => ∃ (kq : Nat) (x24_1 : Bool), v24 = .bool x24_1 ∧ Aside0 (item_Formed.j0 kq x24_1 a0_0 a0_1 a0_2 a0_3 a0_4 a0_5 a0_6 a0_7 = some r) ∧ Aside0 (kq ≤ k) ∧ Aside0 (wc.heap[gb445]? = some (.cells #[.string a0_0, .string a0_1, .int .i64 a0_2, .string a0_3, .int .i64 a0_4, .int .i64 a0_5, .int .i64 a0_6, .int .i64 a0_7] 26 (0, 0))) ∧ Aside0 (Below w.heap.size w wc))
  case first =>
    have H := HC2.out
    clear HC2
    replace H := Option.bind_eq_some_iff.mp H
    obtain ⟨t446, A40, H⟩ := H
    replace H : (if t446 = true then (if a0_1.toList = ([] : List UInt8) then (item_Formed.j0 k (decide ((a0_3.size : Int) > 32)) a0_0 a0_1 a0_2 a0_3 a0_4 a0_5 a0_6 a0_7) else ((zone_Key.f k a0_1).bind fun t447 => (if t447 = true then (item_Formed.j0 k (decide ((a0_3.size : Int) > 32)) a0_0 a0_1 a0_2 a0_3 a0_4 a0_5 a0_6 a0_7) else (item_Formed.j0 k true a0_0 a0_1 a0_2 a0_3 a0_4 a0_5 a0_6 a0_7)))) else (item_Formed.j0 k true a0_0 a0_1 a0_2 a0_3 a0_4 a0_5 a0_6 a0_7)) = some r := H
    have A4 := Aside0.mk A40
    clear A40
    by_cases c5 : t446 = true
    · subst c5
      have H1 : (if a0_1.toList = ([] : List UInt8) then (item_Formed.j0 k (decide ((a0_3.size : Int) > 32)) a0_0 a0_1 a0_2 a0_3 a0_4 a0_5 a0_6 a0_7) else ((zone_Key.f k a0_1).bind fun t447 => (if t447 = true then (item_Formed.j0 k (decide ((a0_3.size : Int) > 32)) a0_0 a0_1 a0_2 a0_3 a0_4 a0_5 a0_6 a0_7) else (item_Formed.j0 k true a0_0 a0_1 a0_2 a0_3 a0_4 a0_5 a0_6 a0_7)))) = some r := by rw [if_pos rfl] at H; exact H
      clear H
      have H := H1
      clear H1
      by_cases c6 : a0_1.toList = ([] : List UInt8)
      · rw [if_pos c6] at H
        have c6b0 : (a0_1.toList == ([] : List UInt8)) = true := beq_iff_eq.mpr c6
        have c6b1 : (a0_1.toList != ([] : List UInt8)) = false := bne_eq_false_iff_eq.mpr c6
        clear c6
        (first | rw [c6b0] | (simp only [i64_w, i32_w]; rw [c6b0]) | skip)
        have H' := Aside0.mk H
        clear H
        have hcz7_0 : w3.cell? ⟨gb445, 0, none⟩ = some (.string a0_0) := (blk_cell BK445.out 0).trans rfl
        have hcz7_1 : w3.cell? ⟨gb445, 1, none⟩ = some (.string a0_1) := (blk_cell BK445.out 1).trans rfl
        have hcz7_2 : w3.cell? ⟨gb445, 2, none⟩ = some (.int .i64 a0_2) := (blk_cell BK445.out 2).trans rfl
        have hcz7_3 : w3.cell? ⟨gb445, 3, none⟩ = some (.string a0_3) := (blk_cell BK445.out 3).trans rfl
        have hcz7_4 : w3.cell? ⟨gb445, 4, none⟩ = some (.int .i64 a0_4) := (blk_cell BK445.out 4).trans rfl
        have hcz7_5 : w3.cell? ⟨gb445, 5, none⟩ = some (.int .i64 a0_5) := (blk_cell BK445.out 5).trans rfl
        have hcz7_6 : w3.cell? ⟨gb445, 6, none⟩ = some (.int .i64 a0_6) := (blk_cell BK445.out 6).trans rfl
        have hcz7_7 : w3.cell? ⟨gb445, 7, none⟩ = some (.int .i64 a0_7) := (blk_cell BK445.out 7).trans rfl
        have hfz7_0 := blk_frozen BK445.out 0
        have hfz7_1 := blk_frozen BK445.out 1
        have hfz7_2 := blk_frozen BK445.out 2
        have hfz7_3 := blk_frozen BK445.out 3
        have hfz7_4 := blk_frozen BK445.out 4
        have hfz7_5 := blk_frozen BK445.out 5
        have hfz7_6 := blk_frozen BK445.out 6
        have hfz7_7 := blk_frozen BK445.out 7
        go_wp2_with (first | ((with_reducible refine gate_callee (f := 47) rfl ?_); refine goesL_ (some 6) rfl rfl Try.func47 (by kernel_rfl) rfl #[.string a0_0] rfl (by (try simp only [List.map_toArray, List.map_cons, List.map_nil]); first | done | rfl | (simp only [List.length_drop, List.length_take]; rfl)) ?_; (with_reducible refine (zone_Key.calls k a0_0 true _ A4.out).mono ?_); rintro e w' ⟨rfl, ⟨nd, rfl⟩⟩; refine ⟨_, rfl, ?_⟩))
        go_meet
        case rel => exact ⟨_, (decide ((a0_3.size : Int) > 32)), (by first | rfl | (simp; done) | (simp [*]; done)), H', ⟨by first | omega | exact Nat.le_refl _⟩, ⟨by (with_reducible repeat (first | refine blk_drewN ?_ _ | refine blk_drew ?_ | refine blk_alloc ?_ _)); exact BK445.out⟩, ⟨by repeat (first | (with_reducible first | exact HB.out | apply below_alloc | apply pw_below_drewN | apply below_drew1 | refine below_set ?_ GE445.out) | exact HB.out)⟩⟩
      · rw [if_neg c6] at H
        have c6b0 : (a0_1.toList == ([] : List UInt8)) = false := beq_eq_false_iff_ne.mpr c6
        have c6b1 : (a0_1.toList != ([] : List UInt8)) = true := bne_iff_ne.mpr c6
        (first | rw [c6b0] | (simp only [i64_w, i32_w]; rw [c6b0]) | skip)
        replace H := Option.bind_eq_some_iff.mp H
        obtain ⟨t447, A80, H⟩ := H
        replace H : (if t447 = true then (item_Formed.j0 k (decide ((a0_3.size : Int) > 32)) a0_0 a0_1 a0_2 a0_3 a0_4 a0_5 a0_6 a0_7) else (item_Formed.j0 k true a0_0 a0_1 a0_2 a0_3 a0_4 a0_5 a0_6 a0_7)) = some r := H
        have A8 := Aside0.mk A80
        clear A80
        by_cases c9 : t447 = true
        · subst c9
          have H1 : (item_Formed.j0 k (decide ((a0_3.size : Int) > 32)) a0_0 a0_1 a0_2 a0_3 a0_4 a0_5 a0_6 a0_7) = some r := by rw [if_pos rfl] at H; exact H
          clear H
          have H := H1
          clear H1
          have H' := Aside0.mk H
          clear H
          have hcz10_0 : w3.cell? ⟨gb445, 0, none⟩ = some (.string a0_0) := (blk_cell BK445.out 0).trans rfl
          have hcz10_1 : w3.cell? ⟨gb445, 1, none⟩ = some (.string a0_1) := (blk_cell BK445.out 1).trans rfl
          have hcz10_2 : w3.cell? ⟨gb445, 2, none⟩ = some (.int .i64 a0_2) := (blk_cell BK445.out 2).trans rfl
          have hcz10_3 : w3.cell? ⟨gb445, 3, none⟩ = some (.string a0_3) := (blk_cell BK445.out 3).trans rfl
          have hcz10_4 : w3.cell? ⟨gb445, 4, none⟩ = some (.int .i64 a0_4) := (blk_cell BK445.out 4).trans rfl
          have hcz10_5 : w3.cell? ⟨gb445, 5, none⟩ = some (.int .i64 a0_5) := (blk_cell BK445.out 5).trans rfl
          have hcz10_6 : w3.cell? ⟨gb445, 6, none⟩ = some (.int .i64 a0_6) := (blk_cell BK445.out 6).trans rfl
          have hcz10_7 : w3.cell? ⟨gb445, 7, none⟩ = some (.int .i64 a0_7) := (blk_cell BK445.out 7).trans rfl
          have hfz10_0 := blk_frozen BK445.out 0
          have hfz10_1 := blk_frozen BK445.out 1
          have hfz10_2 := blk_frozen BK445.out 2
          have hfz10_3 := blk_frozen BK445.out 3
          have hfz10_4 := blk_frozen BK445.out 4
          have hfz10_5 := blk_frozen BK445.out 5
          have hfz10_6 := blk_frozen BK445.out 6
          have hfz10_7 := blk_frozen BK445.out 7
          go_wp2_with (first | ((with_reducible refine gate_callee (f := 47) rfl ?_); refine goesL_ (some 6) rfl rfl Try.func47 (by kernel_rfl) rfl #[.string a0_0] rfl (by (try simp only [List.map_toArray, List.map_cons, List.map_nil]); first | done | rfl | (simp only [List.length_drop, List.length_take]; rfl)) ?_; (with_reducible refine (zone_Key.calls k a0_0 true _ A4.out).mono ?_); rintro e w' ⟨rfl, ⟨nd, rfl⟩⟩; refine ⟨_, rfl, ?_⟩) | (go_at_call 47; (with_reducible refine (zone_Key.calls k a0_1 true _ A8.out).mono ?_); rintro e w' ⟨rfl, ⟨nd, rfl⟩⟩))
          go_meet
          case rel => exact ⟨_, (decide ((a0_3.size : Int) > 32)), (by first | rfl | (simp; done) | (simp [*]; done)), H', ⟨by first | omega | exact Nat.le_refl _⟩, ⟨by (with_reducible repeat (first | refine blk_drewN ?_ _ | refine blk_drew ?_ | refine blk_alloc ?_ _)); exact BK445.out⟩, ⟨by repeat (first | (with_reducible first | exact HB.out | apply below_alloc | apply pw_below_drewN | apply below_drew1 | refine below_set ?_ GE445.out) | exact HB.out)⟩⟩
        · replace c9 := Bool.eq_false_iff.mpr c9
          subst c9
          have H1 : (item_Formed.j0 k true a0_0 a0_1 a0_2 a0_3 a0_4 a0_5 a0_6 a0_7) = some r := by rw [if_neg (show ¬ (false = true) by decide)] at H; exact H
          clear H
          have H := H1
          clear H1
          have H' := Aside0.mk H
          clear H
          have hcz11_0 : w3.cell? ⟨gb445, 0, none⟩ = some (.string a0_0) := (blk_cell BK445.out 0).trans rfl
          have hcz11_1 : w3.cell? ⟨gb445, 1, none⟩ = some (.string a0_1) := (blk_cell BK445.out 1).trans rfl
          have hcz11_2 : w3.cell? ⟨gb445, 2, none⟩ = some (.int .i64 a0_2) := (blk_cell BK445.out 2).trans rfl
          have hcz11_3 : w3.cell? ⟨gb445, 3, none⟩ = some (.string a0_3) := (blk_cell BK445.out 3).trans rfl
          have hcz11_4 : w3.cell? ⟨gb445, 4, none⟩ = some (.int .i64 a0_4) := (blk_cell BK445.out 4).trans rfl
          have hcz11_5 : w3.cell? ⟨gb445, 5, none⟩ = some (.int .i64 a0_5) := (blk_cell BK445.out 5).trans rfl
          have hcz11_6 : w3.cell? ⟨gb445, 6, none⟩ = some (.int .i64 a0_6) := (blk_cell BK445.out 6).trans rfl
          have hcz11_7 : w3.cell? ⟨gb445, 7, none⟩ = some (.int .i64 a0_7) := (blk_cell BK445.out 7).trans rfl
          have hfz11_0 := blk_frozen BK445.out 0
          have hfz11_1 := blk_frozen BK445.out 1
          have hfz11_2 := blk_frozen BK445.out 2
          have hfz11_3 := blk_frozen BK445.out 3
          have hfz11_4 := blk_frozen BK445.out 4
          have hfz11_5 := blk_frozen BK445.out 5
          have hfz11_6 := blk_frozen BK445.out 6
          have hfz11_7 := blk_frozen BK445.out 7
          go_wp2_with (first | ((with_reducible refine gate_callee (f := 47) rfl ?_); refine goesL_ (some 6) rfl rfl Try.func47 (by kernel_rfl) rfl #[.string a0_0] rfl (by (try simp only [List.map_toArray, List.map_cons, List.map_nil]); first | done | rfl | (simp only [List.length_drop, List.length_take]; rfl)) ?_; (with_reducible refine (zone_Key.calls k a0_0 true _ A4.out).mono ?_); rintro e w' ⟨rfl, ⟨nd, rfl⟩⟩; refine ⟨_, rfl, ?_⟩) | (go_at_call 47; (with_reducible refine (zone_Key.calls k a0_1 false _ A8.out).mono ?_); rintro e w' ⟨rfl, ⟨nd, rfl⟩⟩))
          go_meet
          case rel => exact ⟨_, (true), (by first | rfl | (simp; done) | (simp [*]; done)), H', ⟨by first | omega | exact Nat.le_refl _⟩, ⟨by (with_reducible repeat (first | refine blk_drewN ?_ _ | refine blk_drew ?_ | refine blk_alloc ?_ _)); exact BK445.out⟩, ⟨by repeat (first | (with_reducible first | exact HB.out | apply below_alloc | apply pw_below_drewN | apply below_drew1 | refine below_set ?_ GE445.out) | exact HB.out)⟩⟩
    · replace c5 := Bool.eq_false_iff.mpr c5
      subst c5
      have H1 : (item_Formed.j0 k true a0_0 a0_1 a0_2 a0_3 a0_4 a0_5 a0_6 a0_7) = some r := by rw [if_neg (show ¬ (false = true) by decide)] at H; exact H
      clear H
      have H := H1
      clear H1
      have H' := Aside0.mk H
      clear H
      have hcz12_0 : w3.cell? ⟨gb445, 0, none⟩ = some (.string a0_0) := (blk_cell BK445.out 0).trans rfl
      have hcz12_1 : w3.cell? ⟨gb445, 1, none⟩ = some (.string a0_1) := (blk_cell BK445.out 1).trans rfl
      have hcz12_2 : w3.cell? ⟨gb445, 2, none⟩ = some (.int .i64 a0_2) := (blk_cell BK445.out 2).trans rfl
      have hcz12_3 : w3.cell? ⟨gb445, 3, none⟩ = some (.string a0_3) := (blk_cell BK445.out 3).trans rfl
      have hcz12_4 : w3.cell? ⟨gb445, 4, none⟩ = some (.int .i64 a0_4) := (blk_cell BK445.out 4).trans rfl
      have hcz12_5 : w3.cell? ⟨gb445, 5, none⟩ = some (.int .i64 a0_5) := (blk_cell BK445.out 5).trans rfl
      have hcz12_6 : w3.cell? ⟨gb445, 6, none⟩ = some (.int .i64 a0_6) := (blk_cell BK445.out 6).trans rfl
      have hcz12_7 : w3.cell? ⟨gb445, 7, none⟩ = some (.int .i64 a0_7) := (blk_cell BK445.out 7).trans rfl
      have hfz12_0 := blk_frozen BK445.out 0
      have hfz12_1 := blk_frozen BK445.out 1
      have hfz12_2 := blk_frozen BK445.out 2
      have hfz12_3 := blk_frozen BK445.out 3
      have hfz12_4 := blk_frozen BK445.out 4
      have hfz12_5 := blk_frozen BK445.out 5
      have hfz12_6 := blk_frozen BK445.out 6
      have hfz12_7 := blk_frozen BK445.out 7
      go_wp2_with (first | ((with_reducible refine gate_callee (f := 47) rfl ?_); refine goesL_ (some 6) rfl rfl Try.func47 (by kernel_rfl) rfl #[.string a0_0] rfl (by (try simp only [List.map_toArray, List.map_cons, List.map_nil]); first | done | rfl | (simp only [List.length_drop, List.length_take]; rfl)) ?_; (with_reducible refine (zone_Key.calls k a0_0 false _ A4.out).mono ?_); rintro e w' ⟨rfl, ⟨nd, rfl⟩⟩; refine ⟨_, rfl, ?_⟩))
      go_meet
      case rel => exact ⟨_, (true), (by first | rfl | (simp; done) | (simp [*]; done)), H', ⟨by first | omega | exact Nat.le_refl _⟩, ⟨by (with_reducible repeat (first | refine blk_drewN ?_ _ | refine blk_drew ?_ | refine blk_alloc ?_ _)); exact BK445.out⟩, ⟨by repeat (first | (with_reducible first | exact HB.out | apply below_alloc | apply pw_below_drewN | apply below_drew1 | refine below_set ?_ GE445.out) | exact HB.out)⟩⟩
  case rest =>
    clear HC2
    try clear p2
    try clear c4
    try clear c5
    try clear c6
    try clear c6b0
    try clear c6b1
    try clear c9
    try clear hcz10_0
    try clear hcz10_1
    try clear hcz10_2
    try clear hcz10_3
    try clear hcz10_4
    try clear hcz10_5
    try clear hcz10_6
    try clear hcz10_7
    try clear hcz11_0
    try clear hcz11_1
    try clear hcz11_2
    try clear hcz11_3
    try clear hcz11_4
    try clear hcz11_5
    try clear hcz11_6
    try clear hcz11_7
    try clear hcz12_0
    try clear hcz12_1
    try clear hcz12_2
    try clear hcz12_3
    try clear hcz12_4
    try clear hcz12_5
    try clear hcz12_6
    try clear hcz12_7
    try clear hcz7_0
    try clear hcz7_1
    try clear hcz7_2
    try clear hcz7_3
    try clear hcz7_4
    try clear hcz7_5
    try clear hcz7_6
    try clear hcz7_7
    try clear hfz10_0
    try clear hfz10_1
    try clear hfz10_2
    try clear hfz10_3
    try clear hfz10_4
    try clear hfz10_5
    try clear hfz10_6
    try clear hfz10_7
    try clear hfz11_0
    try clear hfz11_1
    try clear hfz11_2
    try clear hfz11_3
    try clear hfz11_4
    try clear hfz11_5
    try clear hfz11_6
    try clear hfz11_7
    try clear hfz12_0
    try clear hfz12_1
    try clear hfz12_2
    try clear hfz12_3
    try clear hfz12_4
    try clear hfz12_5
    try clear hfz12_6
    try clear hfz12_7
    try clear hfz7_0
    try clear hfz7_1
    try clear hfz7_2
    try clear hfz7_3
    try clear hfz7_4
    try clear hfz7_5
    try clear hfz7_6
    try clear hfz7_7
    obtain ⟨kq, x24_1, rfl, HA, HJ1, BK445, HB⟩ := hcut
    cases kq with
    | zero => exact absurd HA.out (by simp [item_Formed.j0])
    | succ kj1 =>
      have H := HA.out
      clear HA
      simp only [item_Formed.j0] at H
      by_cases c13 : x24_1 = true
      · subst c13
        have H1 : (some false) = some r := by rw [if_pos rfl] at H; exact H
        clear H
        have H := H1
        clear H1
        obtain rfl := Option.some.inj H
        go_wp2
        go_ret
        exact ⟨by first | rfl | (simp [errW_none, errW_some] <;> rfl) | (simp [*, errW_none, errW_some] <;> rfl), by repeat (first | (with_reducible first | exact HB.out | apply below_alloc | apply pw_below_drewN | apply below_drew1 | refine below_set ?_ GE445.out) | exact HB.out)⟩
      · replace c13 := Bool.eq_false_iff.mpr c13
        subst c13
        have H1 : (if a0_2 = 1 then (item_Formed.j1 kj1 a0_2 (a0_2 == 1) a0_0 a0_1 a0_2 a0_3 a0_4 a0_5 a0_6 a0_7) else (item_Formed.j1 kj1 a0_2 (a0_2 == 2) a0_0 a0_1 a0_2 a0_3 a0_4 a0_5 a0_6 a0_7)) = some r := by rw [if_neg (show ¬ (false = true) by decide)] at H; exact H
        clear H
        have H := H1
        clear H1
        have HC14 := Aside0.mk H
        clear H
        have hcz15_0 : wc.cell? ⟨gb445, 0, none⟩ = some (.string a0_0) := (blk_cell BK445.out 0).trans rfl
        have hcz15_1 : wc.cell? ⟨gb445, 1, none⟩ = some (.string a0_1) := (blk_cell BK445.out 1).trans rfl
        have hcz15_2 : wc.cell? ⟨gb445, 2, none⟩ = some (.int .i64 a0_2) := (blk_cell BK445.out 2).trans rfl
        have hcz15_3 : wc.cell? ⟨gb445, 3, none⟩ = some (.string a0_3) := (blk_cell BK445.out 3).trans rfl
        have hcz15_4 : wc.cell? ⟨gb445, 4, none⟩ = some (.int .i64 a0_4) := (blk_cell BK445.out 4).trans rfl
        have hcz15_5 : wc.cell? ⟨gb445, 5, none⟩ = some (.int .i64 a0_5) := (blk_cell BK445.out 5).trans rfl
        have hcz15_6 : wc.cell? ⟨gb445, 6, none⟩ = some (.int .i64 a0_6) := (blk_cell BK445.out 6).trans rfl
        have hcz15_7 : wc.cell? ⟨gb445, 7, none⟩ = some (.int .i64 a0_7) := (blk_cell BK445.out 7).trans rfl
        have hfz15_0 := blk_frozen BK445.out 0
        have hfz15_1 := blk_frozen BK445.out 1
        have hfz15_2 := blk_frozen BK445.out 2
        have hfz15_3 := blk_frozen BK445.out 3
        have hfz15_4 := blk_frozen BK445.out 4
        have hfz15_5 := blk_frozen BK445.out 5
        have hfz15_6 := blk_frozen BK445.out 6
        have hfz15_7 := blk_frozen BK445.out 7
        go_upto_if 27 with (fail)
        go_cut [27] (fun v27 wc => ∃ (kq : Nat) (x27_13 : Bool), v27 = .bool x27_13 ∧ Aside0 (item_Formed.j1 kq a0_2 x27_13 a0_0 a0_1 a0_2 a0_3 a0_4 a0_5 a0_6 a0_7 = some r) ∧ Aside0 (kq ≤ kj1) ∧ Aside0 (wc.heap[gb445]? = some (.cells #[.string a0_0, .string a0_1, .int .i64 a0_2, .string a0_3, .int .i64 a0_4, .int .i64 a0_5, .int .i64 a0_6, .int .i64 a0_7] 26 (0, 0))) ∧ Aside0 (Below w.heap.size w wc))
        case first =>
          have H := HC14.out
          clear HC14
          by_cases c16 : a0_2 = 1
          · rw [if_pos c16] at H
            have c16b0 : (a0_2 == 1) = true := beq_iff_eq.mpr c16
            have c16b1 : (a0_2 != 1) = false := bne_eq_false_iff_eq.mpr c16
            clear c16
            (first | rw [c16b0] | (simp only [i64_w, i32_w]; rw [c16b0]) | skip)
            have H' := Aside0.mk H
            clear H
            go_wp2
            go_meet
            case rel => exact ⟨_, ((a0_2 == 1)), (by first | rfl | (simp; done) | (simp [*]; done)), H', ⟨by have := HJ1.out; first | omega | exact Nat.le_refl _⟩, ⟨by (with_reducible repeat (first | refine blk_drewN ?_ _ | refine blk_drew ?_ | refine blk_alloc ?_ _)); exact BK445.out⟩, ⟨by repeat (first | (with_reducible first | exact HB.out | apply below_alloc | apply pw_below_drewN | apply below_drew1 | refine below_set ?_ GE445.out) | exact HB.out)⟩⟩
          · rw [if_neg c16] at H
            have c16b0 : (a0_2 == 1) = false := beq_eq_false_iff_ne.mpr c16
            have c16b1 : (a0_2 != 1) = true := bne_iff_ne.mpr c16
            (first | rw [c16b0] | (simp only [i64_w, i32_w]; rw [c16b0]) | skip)
            have H' := Aside0.mk H
            clear H
            go_wp2
            go_meet
            case rel => exact ⟨_, ((a0_2 == 2)), (by first | rfl | (simp; done) | (simp [*]; done)), H', ⟨by have := HJ1.out; first | omega | exact Nat.le_refl _⟩, ⟨by (with_reducible repeat (first | refine blk_drewN ?_ _ | refine blk_drew ?_ | refine blk_alloc ?_ _)); exact BK445.out⟩, ⟨by repeat (first | (with_reducible first | exact HB.out | apply below_alloc | apply pw_below_drewN | apply below_drew1 | refine below_set ?_ GE445.out) | exact HB.out)⟩⟩
        case rest =>
          clear HC14
          try clear c1
          try clear p2
          try clear c4
          try clear c5
          try clear c6
          try clear c6b0
          try clear c6b1
          try clear c9
          try clear c13
          try clear c16
          try clear c16b0
          try clear c16b1
          try clear hcz10_0
          try clear hcz10_1
          try clear hcz10_2
          try clear hcz10_3
          try clear hcz10_4
          try clear hcz10_5
          try clear hcz10_6
          try clear hcz10_7
          try clear hcz11_0
          try clear hcz11_1
          try clear hcz11_2
          try clear hcz11_3
          try clear hcz11_4
          try clear hcz11_5
          try clear hcz11_6
          try clear hcz11_7
          try clear hcz12_0
          try clear hcz12_1
          try clear hcz12_2
          try clear hcz12_3
          try clear hcz12_4
          try clear hcz12_5
          try clear hcz12_6
          try clear hcz12_7
          try clear hcz15_0
          try clear hcz15_1
          try clear hcz15_2
          try clear hcz15_3
          try clear hcz15_4
          try clear hcz15_5
          try clear hcz15_6
          try clear hcz15_7
          try clear hcz7_0
          try clear hcz7_1
          try clear hcz7_2
          try clear hcz7_3
          try clear hcz7_4
          try clear hcz7_5
          try clear hcz7_6
          try clear hcz7_7
          try clear hfz10_0
          try clear hfz10_1
          try clear hfz10_2
          try clear hfz10_3
          try clear hfz10_4
          try clear hfz10_5
          try clear hfz10_6
          try clear hfz10_7
          try clear hfz11_0
          try clear hfz11_1
          try clear hfz11_2
          try clear hfz11_3
          try clear hfz11_4
          try clear hfz11_5
          try clear hfz11_6
          try clear hfz11_7
          try clear hfz12_0
          try clear hfz12_1
          try clear hfz12_2
          try clear hfz12_3
          try clear hfz12_4
          try clear hfz12_5
          try clear hfz12_6
          try clear hfz12_7
          try clear hfz15_0
          try clear hfz15_1
          try clear hfz15_2
          try clear hfz15_3
          try clear hfz15_4
          try clear hfz15_5
          try clear hfz15_6
          try clear hfz15_7
          try clear hfz7_0
          try clear hfz7_1
          try clear hfz7_2
          try clear hfz7_3
          try clear hfz7_4
          try clear hfz7_5
          try clear hfz7_6
          try clear hfz7_7
          try clear p2
          obtain ⟨kq, x27_13, rfl, HA, HJ13, BK445, HB⟩ := hcut
          cases kq with
          | zero => exact absurd HA.out (by simp [item_Formed.j1])
          | succ kj13 =>
            have H := HA.out
            clear HA
            simp only [item_Formed.j1] at H
            by_cases c17 : x27_13 = true
            · subst c17
              have H1 : (if a0_4 = 0 then (if a0_5 ≥ 0 then (if a0_5 < 8 then (if a0_6 ≥ 1 then (if a0_6 ≤ 1073741824 then (if a0_7 ≥ 0 then (some (decide (a0_7 < 8))) else (some false)) else (some false)) else (some false)) else (some false)) else (some false)) else (some false)) = some r := by rw [if_pos rfl] at H; exact H
              clear H
              have H := H1
              clear H1
              by_cases c18 : a0_4 = 0
              · rw [if_pos c18] at H
                have c18b0 : (a0_4 == 0) = true := beq_iff_eq.mpr c18
                have c18b1 : (a0_4 != 0) = false := bne_eq_false_iff_eq.mpr c18
                clear c18
                by_cases c19 : a0_5 ≥ 0
                · rw [if_pos c19] at H
                  have c19b0 : decide (0 ≤ a0_5) = true := decide_eq_true c19
                  clear c19
                  by_cases c20 : a0_5 < 8
                  · rw [if_pos c20] at H
                    have c20b0 : decide (a0_5 < 8) = true := decide_eq_true c20
                    clear c20
                    by_cases c21 : a0_6 ≥ 1
                    · rw [if_pos c21] at H
                      have c21b0 : decide (1 ≤ a0_6) = true := decide_eq_true c21
                      clear c21
                      by_cases c22 : a0_6 ≤ 1073741824
                      · rw [if_pos c22] at H
                        have c22b0 : decide (a0_6 ≤ 1073741824) = true := decide_eq_true c22
                        clear c22
                        by_cases c23 : a0_7 ≥ 0
                        · rw [if_pos c23] at H
                          have c23b0 : decide (0 ≤ a0_7) = true := decide_eq_true c23
                          clear c23
                          obtain rfl := Option.some.inj H
                          have hcz24_0 : wc.cell? ⟨gb445, 0, none⟩ = some (.string a0_0) := (blk_cell BK445.out 0).trans rfl
                          have hcz24_1 : wc.cell? ⟨gb445, 1, none⟩ = some (.string a0_1) := (blk_cell BK445.out 1).trans rfl
                          have hcz24_2 : wc.cell? ⟨gb445, 2, none⟩ = some (.int .i64 a0_2) := (blk_cell BK445.out 2).trans rfl
                          have hcz24_3 : wc.cell? ⟨gb445, 3, none⟩ = some (.string a0_3) := (blk_cell BK445.out 3).trans rfl
                          have hcz24_4 : wc.cell? ⟨gb445, 4, none⟩ = some (.int .i64 a0_4) := (blk_cell BK445.out 4).trans rfl
                          have hcz24_5 : wc.cell? ⟨gb445, 5, none⟩ = some (.int .i64 a0_5) := (blk_cell BK445.out 5).trans rfl
                          have hcz24_6 : wc.cell? ⟨gb445, 6, none⟩ = some (.int .i64 a0_6) := (blk_cell BK445.out 6).trans rfl
                          have hcz24_7 : wc.cell? ⟨gb445, 7, none⟩ = some (.int .i64 a0_7) := (blk_cell BK445.out 7).trans rfl
                          have hfz24_0 := blk_frozen BK445.out 0
                          have hfz24_1 := blk_frozen BK445.out 1
                          have hfz24_2 := blk_frozen BK445.out 2
                          have hfz24_3 := blk_frozen BK445.out 3
                          have hfz24_4 := blk_frozen BK445.out 4
                          have hfz24_5 := blk_frozen BK445.out 5
                          have hfz24_6 := blk_frozen BK445.out 6
                          have hfz24_7 := blk_frozen BK445.out 7
                          go_wp2_with (first | ((with_reducible refine gate_dst (N := 3) rfl ?_); (try (refine gate_guard (by rfl) ?_; dsimp only)); refine box_event ?hg (N := 3) ?hd (cs := #[.int .i64 0, .int .i64 0, .int .i64 0]) (t := 24) ?hr ?_; (case hd => rfl); (case hg => rfl); (case hr => first | (go_simp; done) | (go_simp; rfl)); intro gb448 hg w25 hbox hb; have n0_ := Aside0.mk (blk_below (g := gb445) (o := .cells #[.string a0_0, .string a0_1, .int .i64 a0_2, .string a0_3, .int .i64 a0_4, .int .i64 a0_5, .int .i64 a0_6, .int .i64 a0_7] 26 (0, 0)) (by (with_reducible repeat (first | refine blk_drewN ?_ _ | refine blk_drew ?_ | refine blk_alloc ?_ _)); exact BK445.out) hb); have n1_ := Aside0.mk (below_step (by repeat (first | (with_reducible first | exact HB.out | apply below_alloc | apply pw_below_drewN | apply below_drew1 | refine below_set ?_ GE445.out) | exact HB.out)) hb); have n2_ := Aside0.mk (hbox); have n3_ := Aside0.mk ((by rw [hg]; exact (below_size (by repeat (first | (with_reducible first | exact HB.out | apply below_alloc | apply pw_below_drewN | apply below_drew1 | refine below_set ?_ GE445.out) | exact HB.out))) : w.heap.size ≤ gb448)); have n4_ := Aside0.mk ((by rw [hg]; exact (below_size (by repeat (first | (with_reducible first | exact HB.out | apply below_alloc | apply pw_below_drewN | apply below_drew1 | refine below_set ?_ GE445.out) | exact HB.out))) : w.heap.size ≤ gb448)); have n5_ := Aside0.mk ((by rw [hg]; exact Nat.ne_of_lt (blk_lt (g := gb445) (o := .cells #[.string a0_0, .string a0_1, .int .i64 a0_2, .string a0_3, .int .i64 a0_4, .int .i64 a0_5, .int .i64 a0_6, .int .i64 a0_7] 26 (0, 0)) (by (with_reducible repeat (first | refine blk_drewN ?_ _ | refine blk_drew ?_ | refine blk_alloc ?_ _)); exact BK445.out)) : gb445 ≠ gb448)); have n6_ := Aside0.mk ((by rw [hg]; exact Nat.ne_of_gt (blk_lt (g := gb445) (o := .cells #[.string a0_0, .string a0_1, .int .i64 a0_2, .string a0_3, .int .i64 a0_4, .int .i64 a0_5, .int .i64 a0_6, .int .i64 a0_7] 26 (0, 0)) (by (with_reducible repeat (first | refine blk_drewN ?_ _ | refine blk_drew ?_ | refine blk_alloc ?_ _)); exact BK445.out)) : gb448 ≠ gb445)); clear BK445; clear HB; have BK445 := n0_; have HB := n1_; have BK448 := n2_; have GW448 := n3_; have GE448 := n4_; have NB445_448 := n5_; have NB448_445 := n6_; clear n0_ n1_ n2_ n3_ n4_ n5_ n6_; clear hb hbox hg; have hnb26 := NB448_445.out; have hnc26 := NB445_448.out; have hcz27_0 : w25.cell? ⟨gb448, 0, none⟩ = some (.int .i64 0) := (blk_cell BK448.out 0).trans rfl; have hcz27_1 : w25.cell? ⟨gb448, 1, none⟩ = some (.int .i64 0) := (blk_cell BK448.out 1).trans rfl; have hcz27_2 : w25.cell? ⟨gb448, 2, none⟩ = some (.int .i64 0) := (blk_cell BK448.out 2).trans rfl; have hfz27_0 := blk_frozen BK448.out 0; have hfz27_1 := blk_frozen BK448.out 1; have hfz27_2 := blk_frozen BK448.out 2))
                          go_ret
                          exact ⟨by first | rfl | (simp [errW_none, errW_some] <;> rfl) | (simp [*, errW_none, errW_some] <;> rfl), by repeat (first | (with_reducible first | exact HB.out | apply below_alloc | apply pw_below_drewN | apply below_drew1 | refine below_set ?_ GE445.out | refine below_set ?_ GE448.out) | exact HB.out)⟩
                        · rw [if_neg c23] at H
                          have c23b0 : decide (0 ≤ a0_7) = false := decide_eq_false c23
                          clear c23
                          obtain rfl := Option.some.inj H
                          have hcz28_0 : wc.cell? ⟨gb445, 0, none⟩ = some (.string a0_0) := (blk_cell BK445.out 0).trans rfl
                          have hcz28_1 : wc.cell? ⟨gb445, 1, none⟩ = some (.string a0_1) := (blk_cell BK445.out 1).trans rfl
                          have hcz28_2 : wc.cell? ⟨gb445, 2, none⟩ = some (.int .i64 a0_2) := (blk_cell BK445.out 2).trans rfl
                          have hcz28_3 : wc.cell? ⟨gb445, 3, none⟩ = some (.string a0_3) := (blk_cell BK445.out 3).trans rfl
                          have hcz28_4 : wc.cell? ⟨gb445, 4, none⟩ = some (.int .i64 a0_4) := (blk_cell BK445.out 4).trans rfl
                          have hcz28_5 : wc.cell? ⟨gb445, 5, none⟩ = some (.int .i64 a0_5) := (blk_cell BK445.out 5).trans rfl
                          have hcz28_6 : wc.cell? ⟨gb445, 6, none⟩ = some (.int .i64 a0_6) := (blk_cell BK445.out 6).trans rfl
                          have hcz28_7 : wc.cell? ⟨gb445, 7, none⟩ = some (.int .i64 a0_7) := (blk_cell BK445.out 7).trans rfl
                          have hfz28_0 := blk_frozen BK445.out 0
                          have hfz28_1 := blk_frozen BK445.out 1
                          have hfz28_2 := blk_frozen BK445.out 2
                          have hfz28_3 := blk_frozen BK445.out 3
                          have hfz28_4 := blk_frozen BK445.out 4
                          have hfz28_5 := blk_frozen BK445.out 5
                          have hfz28_6 := blk_frozen BK445.out 6
                          have hfz28_7 := blk_frozen BK445.out 7
                          go_wp2_with (first | ((with_reducible refine gate_dst (N := 3) rfl ?_); (try (refine gate_guard (by rfl) ?_; dsimp only)); refine box_event ?hg (N := 3) ?hd (cs := #[.int .i64 0, .int .i64 0, .int .i64 0]) (t := 24) ?hr ?_; (case hd => rfl); (case hg => rfl); (case hr => first | (go_simp; done) | (go_simp; rfl)); intro gb448 hg w29 hbox hb; have n0_ := Aside0.mk (blk_below (g := gb445) (o := .cells #[.string a0_0, .string a0_1, .int .i64 a0_2, .string a0_3, .int .i64 a0_4, .int .i64 a0_5, .int .i64 a0_6, .int .i64 a0_7] 26 (0, 0)) (by (with_reducible repeat (first | refine blk_drewN ?_ _ | refine blk_drew ?_ | refine blk_alloc ?_ _)); exact BK445.out) hb); have n1_ := Aside0.mk (below_step (by repeat (first | (with_reducible first | exact HB.out | apply below_alloc | apply pw_below_drewN | apply below_drew1 | refine below_set ?_ GE445.out) | exact HB.out)) hb); have n2_ := Aside0.mk (hbox); have n3_ := Aside0.mk ((by rw [hg]; exact (below_size (by repeat (first | (with_reducible first | exact HB.out | apply below_alloc | apply pw_below_drewN | apply below_drew1 | refine below_set ?_ GE445.out) | exact HB.out))) : w.heap.size ≤ gb448)); have n4_ := Aside0.mk ((by rw [hg]; exact (below_size (by repeat (first | (with_reducible first | exact HB.out | apply below_alloc | apply pw_below_drewN | apply below_drew1 | refine below_set ?_ GE445.out) | exact HB.out))) : w.heap.size ≤ gb448)); have n5_ := Aside0.mk ((by rw [hg]; exact Nat.ne_of_lt (blk_lt (g := gb445) (o := .cells #[.string a0_0, .string a0_1, .int .i64 a0_2, .string a0_3, .int .i64 a0_4, .int .i64 a0_5, .int .i64 a0_6, .int .i64 a0_7] 26 (0, 0)) (by (with_reducible repeat (first | refine blk_drewN ?_ _ | refine blk_drew ?_ | refine blk_alloc ?_ _)); exact BK445.out)) : gb445 ≠ gb448)); have n6_ := Aside0.mk ((by rw [hg]; exact Nat.ne_of_gt (blk_lt (g := gb445) (o := .cells #[.string a0_0, .string a0_1, .int .i64 a0_2, .string a0_3, .int .i64 a0_4, .int .i64 a0_5, .int .i64 a0_6, .int .i64 a0_7] 26 (0, 0)) (by (with_reducible repeat (first | refine blk_drewN ?_ _ | refine blk_drew ?_ | refine blk_alloc ?_ _)); exact BK445.out)) : gb448 ≠ gb445)); clear BK445; clear HB; have BK445 := n0_; have HB := n1_; have BK448 := n2_; have GW448 := n3_; have GE448 := n4_; have NB445_448 := n5_; have NB448_445 := n6_; clear n0_ n1_ n2_ n3_ n4_ n5_ n6_; clear hb hbox hg; have hnb30 := NB448_445.out; have hnc30 := NB445_448.out; have hcz31_0 : w29.cell? ⟨gb448, 0, none⟩ = some (.int .i64 0) := (blk_cell BK448.out 0).trans rfl; have hcz31_1 : w29.cell? ⟨gb448, 1, none⟩ = some (.int .i64 0) := (blk_cell BK448.out 1).trans rfl; have hcz31_2 : w29.cell? ⟨gb448, 2, none⟩ = some (.int .i64 0) := (blk_cell BK448.out 2).trans rfl; have hfz31_0 := blk_frozen BK448.out 0; have hfz31_1 := blk_frozen BK448.out 1; have hfz31_2 := blk_frozen BK448.out 2))
                          go_ret
                          exact ⟨by first | rfl | (simp [errW_none, errW_some] <;> rfl) | (simp [*, errW_none, errW_some] <;> rfl), by repeat (first | (with_reducible first | exact HB.out | apply below_alloc | apply pw_below_drewN | apply below_drew1 | refine below_set ?_ GE445.out | refine below_set ?_ GE448.out) | exact HB.out)⟩
                      · rw [if_neg c22] at H
                        have c22b0 : decide (a0_6 ≤ 1073741824) = false := decide_eq_false c22
                        clear c22
                        obtain rfl := Option.some.inj H
                        have hcz32_0 : wc.cell? ⟨gb445, 0, none⟩ = some (.string a0_0) := (blk_cell BK445.out 0).trans rfl
                        have hcz32_1 : wc.cell? ⟨gb445, 1, none⟩ = some (.string a0_1) := (blk_cell BK445.out 1).trans rfl
                        have hcz32_2 : wc.cell? ⟨gb445, 2, none⟩ = some (.int .i64 a0_2) := (blk_cell BK445.out 2).trans rfl
                        have hcz32_3 : wc.cell? ⟨gb445, 3, none⟩ = some (.string a0_3) := (blk_cell BK445.out 3).trans rfl
                        have hcz32_4 : wc.cell? ⟨gb445, 4, none⟩ = some (.int .i64 a0_4) := (blk_cell BK445.out 4).trans rfl
                        have hcz32_5 : wc.cell? ⟨gb445, 5, none⟩ = some (.int .i64 a0_5) := (blk_cell BK445.out 5).trans rfl
                        have hcz32_6 : wc.cell? ⟨gb445, 6, none⟩ = some (.int .i64 a0_6) := (blk_cell BK445.out 6).trans rfl
                        have hcz32_7 : wc.cell? ⟨gb445, 7, none⟩ = some (.int .i64 a0_7) := (blk_cell BK445.out 7).trans rfl
                        have hfz32_0 := blk_frozen BK445.out 0
                        have hfz32_1 := blk_frozen BK445.out 1
                        have hfz32_2 := blk_frozen BK445.out 2
                        have hfz32_3 := blk_frozen BK445.out 3
                        have hfz32_4 := blk_frozen BK445.out 4
                        have hfz32_5 := blk_frozen BK445.out 5
                        have hfz32_6 := blk_frozen BK445.out 6
                        have hfz32_7 := blk_frozen BK445.out 7
                        go_wp2_with (first | ((with_reducible refine gate_dst (N := 3) rfl ?_); (try (refine gate_guard (by rfl) ?_; dsimp only)); refine box_event ?hg (N := 3) ?hd (cs := #[.int .i64 0, .int .i64 0, .int .i64 0]) (t := 24) ?hr ?_; (case hd => rfl); (case hg => rfl); (case hr => first | (go_simp; done) | (go_simp; rfl)); intro gb448 hg w33 hbox hb; have n0_ := Aside0.mk (blk_below (g := gb445) (o := .cells #[.string a0_0, .string a0_1, .int .i64 a0_2, .string a0_3, .int .i64 a0_4, .int .i64 a0_5, .int .i64 a0_6, .int .i64 a0_7] 26 (0, 0)) (by (with_reducible repeat (first | refine blk_drewN ?_ _ | refine blk_drew ?_ | refine blk_alloc ?_ _)); exact BK445.out) hb); have n1_ := Aside0.mk (below_step (by repeat (first | (with_reducible first | exact HB.out | apply below_alloc | apply pw_below_drewN | apply below_drew1 | refine below_set ?_ GE445.out) | exact HB.out)) hb); have n2_ := Aside0.mk (hbox); have n3_ := Aside0.mk ((by rw [hg]; exact (below_size (by repeat (first | (with_reducible first | exact HB.out | apply below_alloc | apply pw_below_drewN | apply below_drew1 | refine below_set ?_ GE445.out) | exact HB.out))) : w.heap.size ≤ gb448)); have n4_ := Aside0.mk ((by rw [hg]; exact (below_size (by repeat (first | (with_reducible first | exact HB.out | apply below_alloc | apply pw_below_drewN | apply below_drew1 | refine below_set ?_ GE445.out) | exact HB.out))) : w.heap.size ≤ gb448)); have n5_ := Aside0.mk ((by rw [hg]; exact Nat.ne_of_lt (blk_lt (g := gb445) (o := .cells #[.string a0_0, .string a0_1, .int .i64 a0_2, .string a0_3, .int .i64 a0_4, .int .i64 a0_5, .int .i64 a0_6, .int .i64 a0_7] 26 (0, 0)) (by (with_reducible repeat (first | refine blk_drewN ?_ _ | refine blk_drew ?_ | refine blk_alloc ?_ _)); exact BK445.out)) : gb445 ≠ gb448)); have n6_ := Aside0.mk ((by rw [hg]; exact Nat.ne_of_gt (blk_lt (g := gb445) (o := .cells #[.string a0_0, .string a0_1, .int .i64 a0_2, .string a0_3, .int .i64 a0_4, .int .i64 a0_5, .int .i64 a0_6, .int .i64 a0_7] 26 (0, 0)) (by (with_reducible repeat (first | refine blk_drewN ?_ _ | refine blk_drew ?_ | refine blk_alloc ?_ _)); exact BK445.out)) : gb448 ≠ gb445)); clear BK445; clear HB; have BK445 := n0_; have HB := n1_; have BK448 := n2_; have GW448 := n3_; have GE448 := n4_; have NB445_448 := n5_; have NB448_445 := n6_; clear n0_ n1_ n2_ n3_ n4_ n5_ n6_; clear hb hbox hg; have hnb34 := NB448_445.out; have hnc34 := NB445_448.out; have hcz35_0 : w33.cell? ⟨gb448, 0, none⟩ = some (.int .i64 0) := (blk_cell BK448.out 0).trans rfl; have hcz35_1 : w33.cell? ⟨gb448, 1, none⟩ = some (.int .i64 0) := (blk_cell BK448.out 1).trans rfl; have hcz35_2 : w33.cell? ⟨gb448, 2, none⟩ = some (.int .i64 0) := (blk_cell BK448.out 2).trans rfl; have hfz35_0 := blk_frozen BK448.out 0; have hfz35_1 := blk_frozen BK448.out 1; have hfz35_2 := blk_frozen BK448.out 2))
                        go_ret
                        exact ⟨by first | rfl | (simp [errW_none, errW_some] <;> rfl) | (simp [*, errW_none, errW_some] <;> rfl), by repeat (first | (with_reducible first | exact HB.out | apply below_alloc | apply pw_below_drewN | apply below_drew1 | refine below_set ?_ GE445.out | refine below_set ?_ GE448.out) | exact HB.out)⟩
                    · rw [if_neg c21] at H
                      have c21b0 : decide (1 ≤ a0_6) = false := decide_eq_false c21
                      clear c21
                      obtain rfl := Option.some.inj H
                      have hcz36_0 : wc.cell? ⟨gb445, 0, none⟩ = some (.string a0_0) := (blk_cell BK445.out 0).trans rfl
                      have hcz36_1 : wc.cell? ⟨gb445, 1, none⟩ = some (.string a0_1) := (blk_cell BK445.out 1).trans rfl
                      have hcz36_2 : wc.cell? ⟨gb445, 2, none⟩ = some (.int .i64 a0_2) := (blk_cell BK445.out 2).trans rfl
                      have hcz36_3 : wc.cell? ⟨gb445, 3, none⟩ = some (.string a0_3) := (blk_cell BK445.out 3).trans rfl
                      have hcz36_4 : wc.cell? ⟨gb445, 4, none⟩ = some (.int .i64 a0_4) := (blk_cell BK445.out 4).trans rfl
                      have hcz36_5 : wc.cell? ⟨gb445, 5, none⟩ = some (.int .i64 a0_5) := (blk_cell BK445.out 5).trans rfl
                      have hcz36_6 : wc.cell? ⟨gb445, 6, none⟩ = some (.int .i64 a0_6) := (blk_cell BK445.out 6).trans rfl
                      have hcz36_7 : wc.cell? ⟨gb445, 7, none⟩ = some (.int .i64 a0_7) := (blk_cell BK445.out 7).trans rfl
                      have hfz36_0 := blk_frozen BK445.out 0
                      have hfz36_1 := blk_frozen BK445.out 1
                      have hfz36_2 := blk_frozen BK445.out 2
                      have hfz36_3 := blk_frozen BK445.out 3
                      have hfz36_4 := blk_frozen BK445.out 4
                      have hfz36_5 := blk_frozen BK445.out 5
                      have hfz36_6 := blk_frozen BK445.out 6
                      have hfz36_7 := blk_frozen BK445.out 7
                      go_wp2_with (first | ((with_reducible refine gate_dst (N := 3) rfl ?_); (try (refine gate_guard (by rfl) ?_; dsimp only)); refine box_event ?hg (N := 3) ?hd (cs := #[.int .i64 0, .int .i64 0, .int .i64 0]) (t := 24) ?hr ?_; (case hd => rfl); (case hg => rfl); (case hr => first | (go_simp; done) | (go_simp; rfl)); intro gb448 hg w37 hbox hb; have n0_ := Aside0.mk (blk_below (g := gb445) (o := .cells #[.string a0_0, .string a0_1, .int .i64 a0_2, .string a0_3, .int .i64 a0_4, .int .i64 a0_5, .int .i64 a0_6, .int .i64 a0_7] 26 (0, 0)) (by (with_reducible repeat (first | refine blk_drewN ?_ _ | refine blk_drew ?_ | refine blk_alloc ?_ _)); exact BK445.out) hb); have n1_ := Aside0.mk (below_step (by repeat (first | (with_reducible first | exact HB.out | apply below_alloc | apply pw_below_drewN | apply below_drew1 | refine below_set ?_ GE445.out) | exact HB.out)) hb); have n2_ := Aside0.mk (hbox); have n3_ := Aside0.mk ((by rw [hg]; exact (below_size (by repeat (first | (with_reducible first | exact HB.out | apply below_alloc | apply pw_below_drewN | apply below_drew1 | refine below_set ?_ GE445.out) | exact HB.out))) : w.heap.size ≤ gb448)); have n4_ := Aside0.mk ((by rw [hg]; exact (below_size (by repeat (first | (with_reducible first | exact HB.out | apply below_alloc | apply pw_below_drewN | apply below_drew1 | refine below_set ?_ GE445.out) | exact HB.out))) : w.heap.size ≤ gb448)); have n5_ := Aside0.mk ((by rw [hg]; exact Nat.ne_of_lt (blk_lt (g := gb445) (o := .cells #[.string a0_0, .string a0_1, .int .i64 a0_2, .string a0_3, .int .i64 a0_4, .int .i64 a0_5, .int .i64 a0_6, .int .i64 a0_7] 26 (0, 0)) (by (with_reducible repeat (first | refine blk_drewN ?_ _ | refine blk_drew ?_ | refine blk_alloc ?_ _)); exact BK445.out)) : gb445 ≠ gb448)); have n6_ := Aside0.mk ((by rw [hg]; exact Nat.ne_of_gt (blk_lt (g := gb445) (o := .cells #[.string a0_0, .string a0_1, .int .i64 a0_2, .string a0_3, .int .i64 a0_4, .int .i64 a0_5, .int .i64 a0_6, .int .i64 a0_7] 26 (0, 0)) (by (with_reducible repeat (first | refine blk_drewN ?_ _ | refine blk_drew ?_ | refine blk_alloc ?_ _)); exact BK445.out)) : gb448 ≠ gb445)); clear BK445; clear HB; have BK445 := n0_; have HB := n1_; have BK448 := n2_; have GW448 := n3_; have GE448 := n4_; have NB445_448 := n5_; have NB448_445 := n6_; clear n0_ n1_ n2_ n3_ n4_ n5_ n6_; clear hb hbox hg; have hnb38 := NB448_445.out; have hnc38 := NB445_448.out; have hcz39_0 : w37.cell? ⟨gb448, 0, none⟩ = some (.int .i64 0) := (blk_cell BK448.out 0).trans rfl; have hcz39_1 : w37.cell? ⟨gb448, 1, none⟩ = some (.int .i64 0) := (blk_cell BK448.out 1).trans rfl; have hcz39_2 : w37.cell? ⟨gb448, 2, none⟩ = some (.int .i64 0) := (blk_cell BK448.out 2).trans rfl; have hfz39_0 := blk_frozen BK448.out 0; have hfz39_1 := blk_frozen BK448.out 1; have hfz39_2 := blk_frozen BK448.out 2))
                      go_ret
                      exact ⟨by first | rfl | (simp [errW_none, errW_some] <;> rfl) | (simp [*, errW_none, errW_some] <;> rfl), by repeat (first | (with_reducible first | exact HB.out | apply below_alloc | apply pw_below_drewN | apply below_drew1 | refine below_set ?_ GE445.out | refine below_set ?_ GE448.out) | exact HB.out)⟩
                  · rw [if_neg c20] at H
                    have c20b0 : decide (a0_5 < 8) = false := decide_eq_false c20
                    clear c20
                    obtain rfl := Option.some.inj H
                    have hcz40_0 : wc.cell? ⟨gb445, 0, none⟩ = some (.string a0_0) := (blk_cell BK445.out 0).trans rfl
                    have hcz40_1 : wc.cell? ⟨gb445, 1, none⟩ = some (.string a0_1) := (blk_cell BK445.out 1).trans rfl
                    have hcz40_2 : wc.cell? ⟨gb445, 2, none⟩ = some (.int .i64 a0_2) := (blk_cell BK445.out 2).trans rfl
                    have hcz40_3 : wc.cell? ⟨gb445, 3, none⟩ = some (.string a0_3) := (blk_cell BK445.out 3).trans rfl
                    have hcz40_4 : wc.cell? ⟨gb445, 4, none⟩ = some (.int .i64 a0_4) := (blk_cell BK445.out 4).trans rfl
                    have hcz40_5 : wc.cell? ⟨gb445, 5, none⟩ = some (.int .i64 a0_5) := (blk_cell BK445.out 5).trans rfl
                    have hcz40_6 : wc.cell? ⟨gb445, 6, none⟩ = some (.int .i64 a0_6) := (blk_cell BK445.out 6).trans rfl
                    have hcz40_7 : wc.cell? ⟨gb445, 7, none⟩ = some (.int .i64 a0_7) := (blk_cell BK445.out 7).trans rfl
                    have hfz40_0 := blk_frozen BK445.out 0
                    have hfz40_1 := blk_frozen BK445.out 1
                    have hfz40_2 := blk_frozen BK445.out 2
                    have hfz40_3 := blk_frozen BK445.out 3
                    have hfz40_4 := blk_frozen BK445.out 4
                    have hfz40_5 := blk_frozen BK445.out 5
                    have hfz40_6 := blk_frozen BK445.out 6
                    have hfz40_7 := blk_frozen BK445.out 7
                    go_wp2_with (first | ((with_reducible refine gate_dst (N := 3) rfl ?_); (try (refine gate_guard (by rfl) ?_; dsimp only)); refine box_event ?hg (N := 3) ?hd (cs := #[.int .i64 0, .int .i64 0, .int .i64 0]) (t := 24) ?hr ?_; (case hd => rfl); (case hg => rfl); (case hr => first | (go_simp; done) | (go_simp; rfl)); intro gb448 hg w41 hbox hb; have n0_ := Aside0.mk (blk_below (g := gb445) (o := .cells #[.string a0_0, .string a0_1, .int .i64 a0_2, .string a0_3, .int .i64 a0_4, .int .i64 a0_5, .int .i64 a0_6, .int .i64 a0_7] 26 (0, 0)) (by (with_reducible repeat (first | refine blk_drewN ?_ _ | refine blk_drew ?_ | refine blk_alloc ?_ _)); exact BK445.out) hb); have n1_ := Aside0.mk (below_step (by repeat (first | (with_reducible first | exact HB.out | apply below_alloc | apply pw_below_drewN | apply below_drew1 | refine below_set ?_ GE445.out) | exact HB.out)) hb); have n2_ := Aside0.mk (hbox); have n3_ := Aside0.mk ((by rw [hg]; exact (below_size (by repeat (first | (with_reducible first | exact HB.out | apply below_alloc | apply pw_below_drewN | apply below_drew1 | refine below_set ?_ GE445.out) | exact HB.out))) : w.heap.size ≤ gb448)); have n4_ := Aside0.mk ((by rw [hg]; exact (below_size (by repeat (first | (with_reducible first | exact HB.out | apply below_alloc | apply pw_below_drewN | apply below_drew1 | refine below_set ?_ GE445.out) | exact HB.out))) : w.heap.size ≤ gb448)); have n5_ := Aside0.mk ((by rw [hg]; exact Nat.ne_of_lt (blk_lt (g := gb445) (o := .cells #[.string a0_0, .string a0_1, .int .i64 a0_2, .string a0_3, .int .i64 a0_4, .int .i64 a0_5, .int .i64 a0_6, .int .i64 a0_7] 26 (0, 0)) (by (with_reducible repeat (first | refine blk_drewN ?_ _ | refine blk_drew ?_ | refine blk_alloc ?_ _)); exact BK445.out)) : gb445 ≠ gb448)); have n6_ := Aside0.mk ((by rw [hg]; exact Nat.ne_of_gt (blk_lt (g := gb445) (o := .cells #[.string a0_0, .string a0_1, .int .i64 a0_2, .string a0_3, .int .i64 a0_4, .int .i64 a0_5, .int .i64 a0_6, .int .i64 a0_7] 26 (0, 0)) (by (with_reducible repeat (first | refine blk_drewN ?_ _ | refine blk_drew ?_ | refine blk_alloc ?_ _)); exact BK445.out)) : gb448 ≠ gb445)); clear BK445; clear HB; have BK445 := n0_; have HB := n1_; have BK448 := n2_; have GW448 := n3_; have GE448 := n4_; have NB445_448 := n5_; have NB448_445 := n6_; clear n0_ n1_ n2_ n3_ n4_ n5_ n6_; clear hb hbox hg; have hnb42 := NB448_445.out; have hnc42 := NB445_448.out; have hcz43_0 : w41.cell? ⟨gb448, 0, none⟩ = some (.int .i64 0) := (blk_cell BK448.out 0).trans rfl; have hcz43_1 : w41.cell? ⟨gb448, 1, none⟩ = some (.int .i64 0) := (blk_cell BK448.out 1).trans rfl; have hcz43_2 : w41.cell? ⟨gb448, 2, none⟩ = some (.int .i64 0) := (blk_cell BK448.out 2).trans rfl; have hfz43_0 := blk_frozen BK448.out 0; have hfz43_1 := blk_frozen BK448.out 1; have hfz43_2 := blk_frozen BK448.out 2))
                    go_ret
                    exact ⟨by first | rfl | (simp [errW_none, errW_some] <;> rfl) | (simp [*, errW_none, errW_some] <;> rfl), by repeat (first | (with_reducible first | exact HB.out | apply below_alloc | apply pw_below_drewN | apply below_drew1 | refine below_set ?_ GE445.out | refine below_set ?_ GE448.out) | exact HB.out)⟩
                · rw [if_neg c19] at H
                  have c19b0 : decide (0 ≤ a0_5) = false := decide_eq_false c19
                  clear c19
                  obtain rfl := Option.some.inj H
                  have hcz44_0 : wc.cell? ⟨gb445, 0, none⟩ = some (.string a0_0) := (blk_cell BK445.out 0).trans rfl
                  have hcz44_1 : wc.cell? ⟨gb445, 1, none⟩ = some (.string a0_1) := (blk_cell BK445.out 1).trans rfl
                  have hcz44_2 : wc.cell? ⟨gb445, 2, none⟩ = some (.int .i64 a0_2) := (blk_cell BK445.out 2).trans rfl
                  have hcz44_3 : wc.cell? ⟨gb445, 3, none⟩ = some (.string a0_3) := (blk_cell BK445.out 3).trans rfl
                  have hcz44_4 : wc.cell? ⟨gb445, 4, none⟩ = some (.int .i64 a0_4) := (blk_cell BK445.out 4).trans rfl
                  have hcz44_5 : wc.cell? ⟨gb445, 5, none⟩ = some (.int .i64 a0_5) := (blk_cell BK445.out 5).trans rfl
                  have hcz44_6 : wc.cell? ⟨gb445, 6, none⟩ = some (.int .i64 a0_6) := (blk_cell BK445.out 6).trans rfl
                  have hcz44_7 : wc.cell? ⟨gb445, 7, none⟩ = some (.int .i64 a0_7) := (blk_cell BK445.out 7).trans rfl
                  have hfz44_0 := blk_frozen BK445.out 0
                  have hfz44_1 := blk_frozen BK445.out 1
                  have hfz44_2 := blk_frozen BK445.out 2
                  have hfz44_3 := blk_frozen BK445.out 3
                  have hfz44_4 := blk_frozen BK445.out 4
                  have hfz44_5 := blk_frozen BK445.out 5
                  have hfz44_6 := blk_frozen BK445.out 6
                  have hfz44_7 := blk_frozen BK445.out 7
                  go_wp2_with (first | ((with_reducible refine gate_dst (N := 3) rfl ?_); (try (refine gate_guard (by rfl) ?_; dsimp only)); refine box_event ?hg (N := 3) ?hd (cs := #[.int .i64 0, .int .i64 0, .int .i64 0]) (t := 24) ?hr ?_; (case hd => rfl); (case hg => rfl); (case hr => first | (go_simp; done) | (go_simp; rfl)); intro gb448 hg w45 hbox hb; have n0_ := Aside0.mk (blk_below (g := gb445) (o := .cells #[.string a0_0, .string a0_1, .int .i64 a0_2, .string a0_3, .int .i64 a0_4, .int .i64 a0_5, .int .i64 a0_6, .int .i64 a0_7] 26 (0, 0)) (by (with_reducible repeat (first | refine blk_drewN ?_ _ | refine blk_drew ?_ | refine blk_alloc ?_ _)); exact BK445.out) hb); have n1_ := Aside0.mk (below_step (by repeat (first | (with_reducible first | exact HB.out | apply below_alloc | apply pw_below_drewN | apply below_drew1 | refine below_set ?_ GE445.out) | exact HB.out)) hb); have n2_ := Aside0.mk (hbox); have n3_ := Aside0.mk ((by rw [hg]; exact (below_size (by repeat (first | (with_reducible first | exact HB.out | apply below_alloc | apply pw_below_drewN | apply below_drew1 | refine below_set ?_ GE445.out) | exact HB.out))) : w.heap.size ≤ gb448)); have n4_ := Aside0.mk ((by rw [hg]; exact (below_size (by repeat (first | (with_reducible first | exact HB.out | apply below_alloc | apply pw_below_drewN | apply below_drew1 | refine below_set ?_ GE445.out) | exact HB.out))) : w.heap.size ≤ gb448)); have n5_ := Aside0.mk ((by rw [hg]; exact Nat.ne_of_lt (blk_lt (g := gb445) (o := .cells #[.string a0_0, .string a0_1, .int .i64 a0_2, .string a0_3, .int .i64 a0_4, .int .i64 a0_5, .int .i64 a0_6, .int .i64 a0_7] 26 (0, 0)) (by (with_reducible repeat (first | refine blk_drewN ?_ _ | refine blk_drew ?_ | refine blk_alloc ?_ _)); exact BK445.out)) : gb445 ≠ gb448)); have n6_ := Aside0.mk ((by rw [hg]; exact Nat.ne_of_gt (blk_lt (g := gb445) (o := .cells #[.string a0_0, .string a0_1, .int .i64 a0_2, .string a0_3, .int .i64 a0_4, .int .i64 a0_5, .int .i64 a0_6, .int .i64 a0_7] 26 (0, 0)) (by (with_reducible repeat (first | refine blk_drewN ?_ _ | refine blk_drew ?_ | refine blk_alloc ?_ _)); exact BK445.out)) : gb448 ≠ gb445)); clear BK445; clear HB; have BK445 := n0_; have HB := n1_; have BK448 := n2_; have GW448 := n3_; have GE448 := n4_; have NB445_448 := n5_; have NB448_445 := n6_; clear n0_ n1_ n2_ n3_ n4_ n5_ n6_; clear hb hbox hg; have hnb46 := NB448_445.out; have hnc46 := NB445_448.out; have hcz47_0 : w45.cell? ⟨gb448, 0, none⟩ = some (.int .i64 0) := (blk_cell BK448.out 0).trans rfl; have hcz47_1 : w45.cell? ⟨gb448, 1, none⟩ = some (.int .i64 0) := (blk_cell BK448.out 1).trans rfl; have hcz47_2 : w45.cell? ⟨gb448, 2, none⟩ = some (.int .i64 0) := (blk_cell BK448.out 2).trans rfl; have hfz47_0 := blk_frozen BK448.out 0; have hfz47_1 := blk_frozen BK448.out 1; have hfz47_2 := blk_frozen BK448.out 2))
                  go_ret
                  exact ⟨by first | rfl | (simp [errW_none, errW_some] <;> rfl) | (simp [*, errW_none, errW_some] <;> rfl), by repeat (first | (with_reducible first | exact HB.out | apply below_alloc | apply pw_below_drewN | apply below_drew1 | refine below_set ?_ GE445.out | refine below_set ?_ GE448.out) | exact HB.out)⟩
              · rw [if_neg c18] at H
                have c18b0 : (a0_4 == 0) = false := beq_eq_false_iff_ne.mpr c18
                have c18b1 : (a0_4 != 0) = true := bne_iff_ne.mpr c18
                obtain rfl := Option.some.inj H
                have hcz48_0 : wc.cell? ⟨gb445, 0, none⟩ = some (.string a0_0) := (blk_cell BK445.out 0).trans rfl
                have hcz48_1 : wc.cell? ⟨gb445, 1, none⟩ = some (.string a0_1) := (blk_cell BK445.out 1).trans rfl
                have hcz48_2 : wc.cell? ⟨gb445, 2, none⟩ = some (.int .i64 a0_2) := (blk_cell BK445.out 2).trans rfl
                have hcz48_3 : wc.cell? ⟨gb445, 3, none⟩ = some (.string a0_3) := (blk_cell BK445.out 3).trans rfl
                have hcz48_4 : wc.cell? ⟨gb445, 4, none⟩ = some (.int .i64 a0_4) := (blk_cell BK445.out 4).trans rfl
                have hcz48_5 : wc.cell? ⟨gb445, 5, none⟩ = some (.int .i64 a0_5) := (blk_cell BK445.out 5).trans rfl
                have hcz48_6 : wc.cell? ⟨gb445, 6, none⟩ = some (.int .i64 a0_6) := (blk_cell BK445.out 6).trans rfl
                have hcz48_7 : wc.cell? ⟨gb445, 7, none⟩ = some (.int .i64 a0_7) := (blk_cell BK445.out 7).trans rfl
                have hfz48_0 := blk_frozen BK445.out 0
                have hfz48_1 := blk_frozen BK445.out 1
                have hfz48_2 := blk_frozen BK445.out 2
                have hfz48_3 := blk_frozen BK445.out 3
                have hfz48_4 := blk_frozen BK445.out 4
                have hfz48_5 := blk_frozen BK445.out 5
                have hfz48_6 := blk_frozen BK445.out 6
                have hfz48_7 := blk_frozen BK445.out 7
                go_wp2
                go_ret
                exact ⟨by first | rfl | (simp [errW_none, errW_some] <;> rfl) | (simp [*, errW_none, errW_some] <;> rfl), by repeat (first | (with_reducible first | exact HB.out | apply below_alloc | apply pw_below_drewN | apply below_drew1 | refine below_set ?_ GE445.out) | exact HB.out)⟩
            · replace c17 := Bool.eq_false_iff.mpr c17
              subst c17
              have H1 : (if a0_2 = 3 then (if a0_3.toList = ([] : List UInt8) then (if a0_5 ≥ 0 then (if a0_5 < 8 then (if a0_6 ≥ 1 then (if a0_6 ≤ 1073741824 then (if a0_7 ≥ 0 then (some (decide (a0_7 < 8))) else (some false)) else (some false)) else (some false)) else (some false)) else (some false)) else (some false)) else (some false)) = some r := by rw [if_neg (show ¬ (false = true) by decide)] at H; exact H
              clear H
              have H := H1
              clear H1
              by_cases c49 : a0_2 = 3
              · rw [if_pos c49] at H
                have c49b0 : (a0_2 == 3) = true := beq_iff_eq.mpr c49
                have c49b1 : (a0_2 != 3) = false := bne_eq_false_iff_eq.mpr c49
                clear c49
                by_cases c50 : a0_3.toList = ([] : List UInt8)
                · rw [if_pos c50] at H
                  have c50b0 : (a0_3.toList == ([] : List UInt8)) = true := beq_iff_eq.mpr c50
                  have c50b1 : (a0_3.toList != ([] : List UInt8)) = false := bne_eq_false_iff_eq.mpr c50
                  clear c50
                  by_cases c51 : a0_5 ≥ 0
                  · rw [if_pos c51] at H
                    have c51b0 : decide (0 ≤ a0_5) = true := decide_eq_true c51
                    clear c51
                    by_cases c52 : a0_5 < 8
                    · rw [if_pos c52] at H
                      have c52b0 : decide (a0_5 < 8) = true := decide_eq_true c52
                      clear c52
                      by_cases c53 : a0_6 ≥ 1
                      · rw [if_pos c53] at H
                        have c53b0 : decide (1 ≤ a0_6) = true := decide_eq_true c53
                        clear c53
                        by_cases c54 : a0_6 ≤ 1073741824
                        · rw [if_pos c54] at H
                          have c54b0 : decide (a0_6 ≤ 1073741824) = true := decide_eq_true c54
                          clear c54
                          by_cases c55 : a0_7 ≥ 0
                          · rw [if_pos c55] at H
                            have c55b0 : decide (0 ≤ a0_7) = true := decide_eq_true c55
                            clear c55
                            obtain rfl := Option.some.inj H
                            have hcz56_0 : wc.cell? ⟨gb445, 0, none⟩ = some (.string a0_0) := (blk_cell BK445.out 0).trans rfl
                            have hcz56_1 : wc.cell? ⟨gb445, 1, none⟩ = some (.string a0_1) := (blk_cell BK445.out 1).trans rfl
                            have hcz56_2 : wc.cell? ⟨gb445, 2, none⟩ = some (.int .i64 a0_2) := (blk_cell BK445.out 2).trans rfl
                            have hcz56_3 : wc.cell? ⟨gb445, 3, none⟩ = some (.string a0_3) := (blk_cell BK445.out 3).trans rfl
                            have hcz56_4 : wc.cell? ⟨gb445, 4, none⟩ = some (.int .i64 a0_4) := (blk_cell BK445.out 4).trans rfl
                            have hcz56_5 : wc.cell? ⟨gb445, 5, none⟩ = some (.int .i64 a0_5) := (blk_cell BK445.out 5).trans rfl
                            have hcz56_6 : wc.cell? ⟨gb445, 6, none⟩ = some (.int .i64 a0_6) := (blk_cell BK445.out 6).trans rfl
                            have hcz56_7 : wc.cell? ⟨gb445, 7, none⟩ = some (.int .i64 a0_7) := (blk_cell BK445.out 7).trans rfl
                            have hfz56_0 := blk_frozen BK445.out 0
                            have hfz56_1 := blk_frozen BK445.out 1
                            have hfz56_2 := blk_frozen BK445.out 2
                            have hfz56_3 := blk_frozen BK445.out 3
                            have hfz56_4 := blk_frozen BK445.out 4
                            have hfz56_5 := blk_frozen BK445.out 5
                            have hfz56_6 := blk_frozen BK445.out 6
                            have hfz56_7 := blk_frozen BK445.out 7
                            go_wp2_with (first | ((with_reducible refine gate_dst (N := 3) rfl ?_); (try (refine gate_guard (by rfl) ?_; dsimp only)); refine box_event ?hg (N := 3) ?hd (cs := #[.int .i64 0, .int .i64 0, .int .i64 0]) (t := 24) ?hr ?_; (case hd => rfl); (case hg => rfl); (case hr => first | (go_simp; done) | (go_simp; rfl)); intro gb449 hg w57 hbox hb; have n0_ := Aside0.mk (blk_below (g := gb445) (o := .cells #[.string a0_0, .string a0_1, .int .i64 a0_2, .string a0_3, .int .i64 a0_4, .int .i64 a0_5, .int .i64 a0_6, .int .i64 a0_7] 26 (0, 0)) (by (with_reducible repeat (first | refine blk_drewN ?_ _ | refine blk_drew ?_ | refine blk_alloc ?_ _)); exact BK445.out) hb); have n1_ := Aside0.mk (below_step (by repeat (first | (with_reducible first | exact HB.out | apply below_alloc | apply pw_below_drewN | apply below_drew1 | refine below_set ?_ GE445.out) | exact HB.out)) hb); have n2_ := Aside0.mk (hbox); have n3_ := Aside0.mk ((by rw [hg]; exact (below_size (by repeat (first | (with_reducible first | exact HB.out | apply below_alloc | apply pw_below_drewN | apply below_drew1 | refine below_set ?_ GE445.out) | exact HB.out))) : w.heap.size ≤ gb449)); have n4_ := Aside0.mk ((by rw [hg]; exact (below_size (by repeat (first | (with_reducible first | exact HB.out | apply below_alloc | apply pw_below_drewN | apply below_drew1 | refine below_set ?_ GE445.out) | exact HB.out))) : w.heap.size ≤ gb449)); have n5_ := Aside0.mk ((by rw [hg]; exact Nat.ne_of_lt (blk_lt (g := gb445) (o := .cells #[.string a0_0, .string a0_1, .int .i64 a0_2, .string a0_3, .int .i64 a0_4, .int .i64 a0_5, .int .i64 a0_6, .int .i64 a0_7] 26 (0, 0)) (by (with_reducible repeat (first | refine blk_drewN ?_ _ | refine blk_drew ?_ | refine blk_alloc ?_ _)); exact BK445.out)) : gb445 ≠ gb449)); have n6_ := Aside0.mk ((by rw [hg]; exact Nat.ne_of_gt (blk_lt (g := gb445) (o := .cells #[.string a0_0, .string a0_1, .int .i64 a0_2, .string a0_3, .int .i64 a0_4, .int .i64 a0_5, .int .i64 a0_6, .int .i64 a0_7] 26 (0, 0)) (by (with_reducible repeat (first | refine blk_drewN ?_ _ | refine blk_drew ?_ | refine blk_alloc ?_ _)); exact BK445.out)) : gb449 ≠ gb445)); clear BK445; clear HB; have BK445 := n0_; have HB := n1_; have BK449 := n2_; have GW449 := n3_; have GE449 := n4_; have NB445_449 := n5_; have NB449_445 := n6_; clear n0_ n1_ n2_ n3_ n4_ n5_ n6_; clear hb hbox hg; have hnb58 := NB449_445.out; have hnc58 := NB445_449.out; have hcz59_0 : w57.cell? ⟨gb449, 0, none⟩ = some (.int .i64 0) := (blk_cell BK449.out 0).trans rfl; have hcz59_1 : w57.cell? ⟨gb449, 1, none⟩ = some (.int .i64 0) := (blk_cell BK449.out 1).trans rfl; have hcz59_2 : w57.cell? ⟨gb449, 2, none⟩ = some (.int .i64 0) := (blk_cell BK449.out 2).trans rfl; have hfz59_0 := blk_frozen BK449.out 0; have hfz59_1 := blk_frozen BK449.out 1; have hfz59_2 := blk_frozen BK449.out 2))
                            go_ret
                            exact ⟨by first | rfl | (simp [errW_none, errW_some] <;> rfl) | (simp [*, errW_none, errW_some] <;> rfl), by repeat (first | (with_reducible first | exact HB.out | apply below_alloc | apply pw_below_drewN | apply below_drew1 | refine below_set ?_ GE445.out | refine below_set ?_ GE449.out) | exact HB.out)⟩
                          · rw [if_neg c55] at H
                            have c55b0 : decide (0 ≤ a0_7) = false := decide_eq_false c55
                            clear c55
                            obtain rfl := Option.some.inj H
                            have hcz60_0 : wc.cell? ⟨gb445, 0, none⟩ = some (.string a0_0) := (blk_cell BK445.out 0).trans rfl
                            have hcz60_1 : wc.cell? ⟨gb445, 1, none⟩ = some (.string a0_1) := (blk_cell BK445.out 1).trans rfl
                            have hcz60_2 : wc.cell? ⟨gb445, 2, none⟩ = some (.int .i64 a0_2) := (blk_cell BK445.out 2).trans rfl
                            have hcz60_3 : wc.cell? ⟨gb445, 3, none⟩ = some (.string a0_3) := (blk_cell BK445.out 3).trans rfl
                            have hcz60_4 : wc.cell? ⟨gb445, 4, none⟩ = some (.int .i64 a0_4) := (blk_cell BK445.out 4).trans rfl
                            have hcz60_5 : wc.cell? ⟨gb445, 5, none⟩ = some (.int .i64 a0_5) := (blk_cell BK445.out 5).trans rfl
                            have hcz60_6 : wc.cell? ⟨gb445, 6, none⟩ = some (.int .i64 a0_6) := (blk_cell BK445.out 6).trans rfl
                            have hcz60_7 : wc.cell? ⟨gb445, 7, none⟩ = some (.int .i64 a0_7) := (blk_cell BK445.out 7).trans rfl
                            have hfz60_0 := blk_frozen BK445.out 0
                            have hfz60_1 := blk_frozen BK445.out 1
                            have hfz60_2 := blk_frozen BK445.out 2
                            have hfz60_3 := blk_frozen BK445.out 3
                            have hfz60_4 := blk_frozen BK445.out 4
                            have hfz60_5 := blk_frozen BK445.out 5
                            have hfz60_6 := blk_frozen BK445.out 6
                            have hfz60_7 := blk_frozen BK445.out 7
                            go_wp2_with (first | ((with_reducible refine gate_dst (N := 3) rfl ?_); (try (refine gate_guard (by rfl) ?_; dsimp only)); refine box_event ?hg (N := 3) ?hd (cs := #[.int .i64 0, .int .i64 0, .int .i64 0]) (t := 24) ?hr ?_; (case hd => rfl); (case hg => rfl); (case hr => first | (go_simp; done) | (go_simp; rfl)); intro gb449 hg w61 hbox hb; have n0_ := Aside0.mk (blk_below (g := gb445) (o := .cells #[.string a0_0, .string a0_1, .int .i64 a0_2, .string a0_3, .int .i64 a0_4, .int .i64 a0_5, .int .i64 a0_6, .int .i64 a0_7] 26 (0, 0)) (by (with_reducible repeat (first | refine blk_drewN ?_ _ | refine blk_drew ?_ | refine blk_alloc ?_ _)); exact BK445.out) hb); have n1_ := Aside0.mk (below_step (by repeat (first | (with_reducible first | exact HB.out | apply below_alloc | apply pw_below_drewN | apply below_drew1 | refine below_set ?_ GE445.out) | exact HB.out)) hb); have n2_ := Aside0.mk (hbox); have n3_ := Aside0.mk ((by rw [hg]; exact (below_size (by repeat (first | (with_reducible first | exact HB.out | apply below_alloc | apply pw_below_drewN | apply below_drew1 | refine below_set ?_ GE445.out) | exact HB.out))) : w.heap.size ≤ gb449)); have n4_ := Aside0.mk ((by rw [hg]; exact (below_size (by repeat (first | (with_reducible first | exact HB.out | apply below_alloc | apply pw_below_drewN | apply below_drew1 | refine below_set ?_ GE445.out) | exact HB.out))) : w.heap.size ≤ gb449)); have n5_ := Aside0.mk ((by rw [hg]; exact Nat.ne_of_lt (blk_lt (g := gb445) (o := .cells #[.string a0_0, .string a0_1, .int .i64 a0_2, .string a0_3, .int .i64 a0_4, .int .i64 a0_5, .int .i64 a0_6, .int .i64 a0_7] 26 (0, 0)) (by (with_reducible repeat (first | refine blk_drewN ?_ _ | refine blk_drew ?_ | refine blk_alloc ?_ _)); exact BK445.out)) : gb445 ≠ gb449)); have n6_ := Aside0.mk ((by rw [hg]; exact Nat.ne_of_gt (blk_lt (g := gb445) (o := .cells #[.string a0_0, .string a0_1, .int .i64 a0_2, .string a0_3, .int .i64 a0_4, .int .i64 a0_5, .int .i64 a0_6, .int .i64 a0_7] 26 (0, 0)) (by (with_reducible repeat (first | refine blk_drewN ?_ _ | refine blk_drew ?_ | refine blk_alloc ?_ _)); exact BK445.out)) : gb449 ≠ gb445)); clear BK445; clear HB; have BK445 := n0_; have HB := n1_; have BK449 := n2_; have GW449 := n3_; have GE449 := n4_; have NB445_449 := n5_; have NB449_445 := n6_; clear n0_ n1_ n2_ n3_ n4_ n5_ n6_; clear hb hbox hg; have hnb62 := NB449_445.out; have hnc62 := NB445_449.out; have hcz63_0 : w61.cell? ⟨gb449, 0, none⟩ = some (.int .i64 0) := (blk_cell BK449.out 0).trans rfl; have hcz63_1 : w61.cell? ⟨gb449, 1, none⟩ = some (.int .i64 0) := (blk_cell BK449.out 1).trans rfl; have hcz63_2 : w61.cell? ⟨gb449, 2, none⟩ = some (.int .i64 0) := (blk_cell BK449.out 2).trans rfl; have hfz63_0 := blk_frozen BK449.out 0; have hfz63_1 := blk_frozen BK449.out 1; have hfz63_2 := blk_frozen BK449.out 2))
                            go_ret
                            exact ⟨by first | rfl | (simp [errW_none, errW_some] <;> rfl) | (simp [*, errW_none, errW_some] <;> rfl), by repeat (first | (with_reducible first | exact HB.out | apply below_alloc | apply pw_below_drewN | apply below_drew1 | refine below_set ?_ GE445.out | refine below_set ?_ GE449.out) | exact HB.out)⟩
                        · rw [if_neg c54] at H
                          have c54b0 : decide (a0_6 ≤ 1073741824) = false := decide_eq_false c54
                          clear c54
                          obtain rfl := Option.some.inj H
                          have hcz64_0 : wc.cell? ⟨gb445, 0, none⟩ = some (.string a0_0) := (blk_cell BK445.out 0).trans rfl
                          have hcz64_1 : wc.cell? ⟨gb445, 1, none⟩ = some (.string a0_1) := (blk_cell BK445.out 1).trans rfl
                          have hcz64_2 : wc.cell? ⟨gb445, 2, none⟩ = some (.int .i64 a0_2) := (blk_cell BK445.out 2).trans rfl
                          have hcz64_3 : wc.cell? ⟨gb445, 3, none⟩ = some (.string a0_3) := (blk_cell BK445.out 3).trans rfl
                          have hcz64_4 : wc.cell? ⟨gb445, 4, none⟩ = some (.int .i64 a0_4) := (blk_cell BK445.out 4).trans rfl
                          have hcz64_5 : wc.cell? ⟨gb445, 5, none⟩ = some (.int .i64 a0_5) := (blk_cell BK445.out 5).trans rfl
                          have hcz64_6 : wc.cell? ⟨gb445, 6, none⟩ = some (.int .i64 a0_6) := (blk_cell BK445.out 6).trans rfl
                          have hcz64_7 : wc.cell? ⟨gb445, 7, none⟩ = some (.int .i64 a0_7) := (blk_cell BK445.out 7).trans rfl
                          have hfz64_0 := blk_frozen BK445.out 0
                          have hfz64_1 := blk_frozen BK445.out 1
                          have hfz64_2 := blk_frozen BK445.out 2
                          have hfz64_3 := blk_frozen BK445.out 3
                          have hfz64_4 := blk_frozen BK445.out 4
                          have hfz64_5 := blk_frozen BK445.out 5
                          have hfz64_6 := blk_frozen BK445.out 6
                          have hfz64_7 := blk_frozen BK445.out 7
                          go_wp2_with (first | ((with_reducible refine gate_dst (N := 3) rfl ?_); (try (refine gate_guard (by rfl) ?_; dsimp only)); refine box_event ?hg (N := 3) ?hd (cs := #[.int .i64 0, .int .i64 0, .int .i64 0]) (t := 24) ?hr ?_; (case hd => rfl); (case hg => rfl); (case hr => first | (go_simp; done) | (go_simp; rfl)); intro gb449 hg w65 hbox hb; have n0_ := Aside0.mk (blk_below (g := gb445) (o := .cells #[.string a0_0, .string a0_1, .int .i64 a0_2, .string a0_3, .int .i64 a0_4, .int .i64 a0_5, .int .i64 a0_6, .int .i64 a0_7] 26 (0, 0)) (by (with_reducible repeat (first | refine blk_drewN ?_ _ | refine blk_drew ?_ | refine blk_alloc ?_ _)); exact BK445.out) hb); have n1_ := Aside0.mk (below_step (by repeat (first | (with_reducible first | exact HB.out | apply below_alloc | apply pw_below_drewN | apply below_drew1 | refine below_set ?_ GE445.out) | exact HB.out)) hb); have n2_ := Aside0.mk (hbox); have n3_ := Aside0.mk ((by rw [hg]; exact (below_size (by repeat (first | (with_reducible first | exact HB.out | apply below_alloc | apply pw_below_drewN | apply below_drew1 | refine below_set ?_ GE445.out) | exact HB.out))) : w.heap.size ≤ gb449)); have n4_ := Aside0.mk ((by rw [hg]; exact (below_size (by repeat (first | (with_reducible first | exact HB.out | apply below_alloc | apply pw_below_drewN | apply below_drew1 | refine below_set ?_ GE445.out) | exact HB.out))) : w.heap.size ≤ gb449)); have n5_ := Aside0.mk ((by rw [hg]; exact Nat.ne_of_lt (blk_lt (g := gb445) (o := .cells #[.string a0_0, .string a0_1, .int .i64 a0_2, .string a0_3, .int .i64 a0_4, .int .i64 a0_5, .int .i64 a0_6, .int .i64 a0_7] 26 (0, 0)) (by (with_reducible repeat (first | refine blk_drewN ?_ _ | refine blk_drew ?_ | refine blk_alloc ?_ _)); exact BK445.out)) : gb445 ≠ gb449)); have n6_ := Aside0.mk ((by rw [hg]; exact Nat.ne_of_gt (blk_lt (g := gb445) (o := .cells #[.string a0_0, .string a0_1, .int .i64 a0_2, .string a0_3, .int .i64 a0_4, .int .i64 a0_5, .int .i64 a0_6, .int .i64 a0_7] 26 (0, 0)) (by (with_reducible repeat (first | refine blk_drewN ?_ _ | refine blk_drew ?_ | refine blk_alloc ?_ _)); exact BK445.out)) : gb449 ≠ gb445)); clear BK445; clear HB; have BK445 := n0_; have HB := n1_; have BK449 := n2_; have GW449 := n3_; have GE449 := n4_; have NB445_449 := n5_; have NB449_445 := n6_; clear n0_ n1_ n2_ n3_ n4_ n5_ n6_; clear hb hbox hg; have hnb66 := NB449_445.out; have hnc66 := NB445_449.out; have hcz67_0 : w65.cell? ⟨gb449, 0, none⟩ = some (.int .i64 0) := (blk_cell BK449.out 0).trans rfl; have hcz67_1 : w65.cell? ⟨gb449, 1, none⟩ = some (.int .i64 0) := (blk_cell BK449.out 1).trans rfl; have hcz67_2 : w65.cell? ⟨gb449, 2, none⟩ = some (.int .i64 0) := (blk_cell BK449.out 2).trans rfl; have hfz67_0 := blk_frozen BK449.out 0; have hfz67_1 := blk_frozen BK449.out 1; have hfz67_2 := blk_frozen BK449.out 2))
                          go_ret
                          exact ⟨by first | rfl | (simp [errW_none, errW_some] <;> rfl) | (simp [*, errW_none, errW_some] <;> rfl), by repeat (first | (with_reducible first | exact HB.out | apply below_alloc | apply pw_below_drewN | apply below_drew1 | refine below_set ?_ GE445.out | refine below_set ?_ GE449.out) | exact HB.out)⟩
                      · rw [if_neg c53] at H
                        have c53b0 : decide (1 ≤ a0_6) = false := decide_eq_false c53
                        clear c53
                        obtain rfl := Option.some.inj H
                        have hcz68_0 : wc.cell? ⟨gb445, 0, none⟩ = some (.string a0_0) := (blk_cell BK445.out 0).trans rfl
                        have hcz68_1 : wc.cell? ⟨gb445, 1, none⟩ = some (.string a0_1) := (blk_cell BK445.out 1).trans rfl
                        have hcz68_2 : wc.cell? ⟨gb445, 2, none⟩ = some (.int .i64 a0_2) := (blk_cell BK445.out 2).trans rfl
                        have hcz68_3 : wc.cell? ⟨gb445, 3, none⟩ = some (.string a0_3) := (blk_cell BK445.out 3).trans rfl
                        have hcz68_4 : wc.cell? ⟨gb445, 4, none⟩ = some (.int .i64 a0_4) := (blk_cell BK445.out 4).trans rfl
                        have hcz68_5 : wc.cell? ⟨gb445, 5, none⟩ = some (.int .i64 a0_5) := (blk_cell BK445.out 5).trans rfl
                        have hcz68_6 : wc.cell? ⟨gb445, 6, none⟩ = some (.int .i64 a0_6) := (blk_cell BK445.out 6).trans rfl
                        have hcz68_7 : wc.cell? ⟨gb445, 7, none⟩ = some (.int .i64 a0_7) := (blk_cell BK445.out 7).trans rfl
                        have hfz68_0 := blk_frozen BK445.out 0
                        have hfz68_1 := blk_frozen BK445.out 1
                        have hfz68_2 := blk_frozen BK445.out 2
                        have hfz68_3 := blk_frozen BK445.out 3
                        have hfz68_4 := blk_frozen BK445.out 4
                        have hfz68_5 := blk_frozen BK445.out 5
                        have hfz68_6 := blk_frozen BK445.out 6
                        have hfz68_7 := blk_frozen BK445.out 7
                        go_wp2_with (first | ((with_reducible refine gate_dst (N := 3) rfl ?_); (try (refine gate_guard (by rfl) ?_; dsimp only)); refine box_event ?hg (N := 3) ?hd (cs := #[.int .i64 0, .int .i64 0, .int .i64 0]) (t := 24) ?hr ?_; (case hd => rfl); (case hg => rfl); (case hr => first | (go_simp; done) | (go_simp; rfl)); intro gb449 hg w69 hbox hb; have n0_ := Aside0.mk (blk_below (g := gb445) (o := .cells #[.string a0_0, .string a0_1, .int .i64 a0_2, .string a0_3, .int .i64 a0_4, .int .i64 a0_5, .int .i64 a0_6, .int .i64 a0_7] 26 (0, 0)) (by (with_reducible repeat (first | refine blk_drewN ?_ _ | refine blk_drew ?_ | refine blk_alloc ?_ _)); exact BK445.out) hb); have n1_ := Aside0.mk (below_step (by repeat (first | (with_reducible first | exact HB.out | apply below_alloc | apply pw_below_drewN | apply below_drew1 | refine below_set ?_ GE445.out) | exact HB.out)) hb); have n2_ := Aside0.mk (hbox); have n3_ := Aside0.mk ((by rw [hg]; exact (below_size (by repeat (first | (with_reducible first | exact HB.out | apply below_alloc | apply pw_below_drewN | apply below_drew1 | refine below_set ?_ GE445.out) | exact HB.out))) : w.heap.size ≤ gb449)); have n4_ := Aside0.mk ((by rw [hg]; exact (below_size (by repeat (first | (with_reducible first | exact HB.out | apply below_alloc | apply pw_below_drewN | apply below_drew1 | refine below_set ?_ GE445.out) | exact HB.out))) : w.heap.size ≤ gb449)); have n5_ := Aside0.mk ((by rw [hg]; exact Nat.ne_of_lt (blk_lt (g := gb445) (o := .cells #[.string a0_0, .string a0_1, .int .i64 a0_2, .string a0_3, .int .i64 a0_4, .int .i64 a0_5, .int .i64 a0_6, .int .i64 a0_7] 26 (0, 0)) (by (with_reducible repeat (first | refine blk_drewN ?_ _ | refine blk_drew ?_ | refine blk_alloc ?_ _)); exact BK445.out)) : gb445 ≠ gb449)); have n6_ := Aside0.mk ((by rw [hg]; exact Nat.ne_of_gt (blk_lt (g := gb445) (o := .cells #[.string a0_0, .string a0_1, .int .i64 a0_2, .string a0_3, .int .i64 a0_4, .int .i64 a0_5, .int .i64 a0_6, .int .i64 a0_7] 26 (0, 0)) (by (with_reducible repeat (first | refine blk_drewN ?_ _ | refine blk_drew ?_ | refine blk_alloc ?_ _)); exact BK445.out)) : gb449 ≠ gb445)); clear BK445; clear HB; have BK445 := n0_; have HB := n1_; have BK449 := n2_; have GW449 := n3_; have GE449 := n4_; have NB445_449 := n5_; have NB449_445 := n6_; clear n0_ n1_ n2_ n3_ n4_ n5_ n6_; clear hb hbox hg; have hnb70 := NB449_445.out; have hnc70 := NB445_449.out; have hcz71_0 : w69.cell? ⟨gb449, 0, none⟩ = some (.int .i64 0) := (blk_cell BK449.out 0).trans rfl; have hcz71_1 : w69.cell? ⟨gb449, 1, none⟩ = some (.int .i64 0) := (blk_cell BK449.out 1).trans rfl; have hcz71_2 : w69.cell? ⟨gb449, 2, none⟩ = some (.int .i64 0) := (blk_cell BK449.out 2).trans rfl; have hfz71_0 := blk_frozen BK449.out 0; have hfz71_1 := blk_frozen BK449.out 1; have hfz71_2 := blk_frozen BK449.out 2))
                        go_ret
                        exact ⟨by first | rfl | (simp [errW_none, errW_some] <;> rfl) | (simp [*, errW_none, errW_some] <;> rfl), by repeat (first | (with_reducible first | exact HB.out | apply below_alloc | apply pw_below_drewN | apply below_drew1 | refine below_set ?_ GE445.out | refine below_set ?_ GE449.out) | exact HB.out)⟩
                    · rw [if_neg c52] at H
                      have c52b0 : decide (a0_5 < 8) = false := decide_eq_false c52
                      clear c52
                      obtain rfl := Option.some.inj H
                      have hcz72_0 : wc.cell? ⟨gb445, 0, none⟩ = some (.string a0_0) := (blk_cell BK445.out 0).trans rfl
                      have hcz72_1 : wc.cell? ⟨gb445, 1, none⟩ = some (.string a0_1) := (blk_cell BK445.out 1).trans rfl
                      have hcz72_2 : wc.cell? ⟨gb445, 2, none⟩ = some (.int .i64 a0_2) := (blk_cell BK445.out 2).trans rfl
                      have hcz72_3 : wc.cell? ⟨gb445, 3, none⟩ = some (.string a0_3) := (blk_cell BK445.out 3).trans rfl
                      have hcz72_4 : wc.cell? ⟨gb445, 4, none⟩ = some (.int .i64 a0_4) := (blk_cell BK445.out 4).trans rfl
                      have hcz72_5 : wc.cell? ⟨gb445, 5, none⟩ = some (.int .i64 a0_5) := (blk_cell BK445.out 5).trans rfl
                      have hcz72_6 : wc.cell? ⟨gb445, 6, none⟩ = some (.int .i64 a0_6) := (blk_cell BK445.out 6).trans rfl
                      have hcz72_7 : wc.cell? ⟨gb445, 7, none⟩ = some (.int .i64 a0_7) := (blk_cell BK445.out 7).trans rfl
                      have hfz72_0 := blk_frozen BK445.out 0
                      have hfz72_1 := blk_frozen BK445.out 1
                      have hfz72_2 := blk_frozen BK445.out 2
                      have hfz72_3 := blk_frozen BK445.out 3
                      have hfz72_4 := blk_frozen BK445.out 4
                      have hfz72_5 := blk_frozen BK445.out 5
                      have hfz72_6 := blk_frozen BK445.out 6
                      have hfz72_7 := blk_frozen BK445.out 7
                      go_wp2_with (first | ((with_reducible refine gate_dst (N := 3) rfl ?_); (try (refine gate_guard (by rfl) ?_; dsimp only)); refine box_event ?hg (N := 3) ?hd (cs := #[.int .i64 0, .int .i64 0, .int .i64 0]) (t := 24) ?hr ?_; (case hd => rfl); (case hg => rfl); (case hr => first | (go_simp; done) | (go_simp; rfl)); intro gb449 hg w73 hbox hb; have n0_ := Aside0.mk (blk_below (g := gb445) (o := .cells #[.string a0_0, .string a0_1, .int .i64 a0_2, .string a0_3, .int .i64 a0_4, .int .i64 a0_5, .int .i64 a0_6, .int .i64 a0_7] 26 (0, 0)) (by (with_reducible repeat (first | refine blk_drewN ?_ _ | refine blk_drew ?_ | refine blk_alloc ?_ _)); exact BK445.out) hb); have n1_ := Aside0.mk (below_step (by repeat (first | (with_reducible first | exact HB.out | apply below_alloc | apply pw_below_drewN | apply below_drew1 | refine below_set ?_ GE445.out) | exact HB.out)) hb); have n2_ := Aside0.mk (hbox); have n3_ := Aside0.mk ((by rw [hg]; exact (below_size (by repeat (first | (with_reducible first | exact HB.out | apply below_alloc | apply pw_below_drewN | apply below_drew1 | refine below_set ?_ GE445.out) | exact HB.out))) : w.heap.size ≤ gb449)); have n4_ := Aside0.mk ((by rw [hg]; exact (below_size (by repeat (first | (with_reducible first | exact HB.out | apply below_alloc | apply pw_below_drewN | apply below_drew1 | refine below_set ?_ GE445.out) | exact HB.out))) : w.heap.size ≤ gb449)); have n5_ := Aside0.mk ((by rw [hg]; exact Nat.ne_of_lt (blk_lt (g := gb445) (o := .cells #[.string a0_0, .string a0_1, .int .i64 a0_2, .string a0_3, .int .i64 a0_4, .int .i64 a0_5, .int .i64 a0_6, .int .i64 a0_7] 26 (0, 0)) (by (with_reducible repeat (first | refine blk_drewN ?_ _ | refine blk_drew ?_ | refine blk_alloc ?_ _)); exact BK445.out)) : gb445 ≠ gb449)); have n6_ := Aside0.mk ((by rw [hg]; exact Nat.ne_of_gt (blk_lt (g := gb445) (o := .cells #[.string a0_0, .string a0_1, .int .i64 a0_2, .string a0_3, .int .i64 a0_4, .int .i64 a0_5, .int .i64 a0_6, .int .i64 a0_7] 26 (0, 0)) (by (with_reducible repeat (first | refine blk_drewN ?_ _ | refine blk_drew ?_ | refine blk_alloc ?_ _)); exact BK445.out)) : gb449 ≠ gb445)); clear BK445; clear HB; have BK445 := n0_; have HB := n1_; have BK449 := n2_; have GW449 := n3_; have GE449 := n4_; have NB445_449 := n5_; have NB449_445 := n6_; clear n0_ n1_ n2_ n3_ n4_ n5_ n6_; clear hb hbox hg; have hnb74 := NB449_445.out; have hnc74 := NB445_449.out; have hcz75_0 : w73.cell? ⟨gb449, 0, none⟩ = some (.int .i64 0) := (blk_cell BK449.out 0).trans rfl; have hcz75_1 : w73.cell? ⟨gb449, 1, none⟩ = some (.int .i64 0) := (blk_cell BK449.out 1).trans rfl; have hcz75_2 : w73.cell? ⟨gb449, 2, none⟩ = some (.int .i64 0) := (blk_cell BK449.out 2).trans rfl; have hfz75_0 := blk_frozen BK449.out 0; have hfz75_1 := blk_frozen BK449.out 1; have hfz75_2 := blk_frozen BK449.out 2))
                      go_ret
                      exact ⟨by first | rfl | (simp [errW_none, errW_some] <;> rfl) | (simp [*, errW_none, errW_some] <;> rfl), by repeat (first | (with_reducible first | exact HB.out | apply below_alloc | apply pw_below_drewN | apply below_drew1 | refine below_set ?_ GE445.out | refine below_set ?_ GE449.out) | exact HB.out)⟩
                  · rw [if_neg c51] at H
                    have c51b0 : decide (0 ≤ a0_5) = false := decide_eq_false c51
                    clear c51
                    obtain rfl := Option.some.inj H
                    have hcz76_0 : wc.cell? ⟨gb445, 0, none⟩ = some (.string a0_0) := (blk_cell BK445.out 0).trans rfl
                    have hcz76_1 : wc.cell? ⟨gb445, 1, none⟩ = some (.string a0_1) := (blk_cell BK445.out 1).trans rfl
                    have hcz76_2 : wc.cell? ⟨gb445, 2, none⟩ = some (.int .i64 a0_2) := (blk_cell BK445.out 2).trans rfl
                    have hcz76_3 : wc.cell? ⟨gb445, 3, none⟩ = some (.string a0_3) := (blk_cell BK445.out 3).trans rfl
                    have hcz76_4 : wc.cell? ⟨gb445, 4, none⟩ = some (.int .i64 a0_4) := (blk_cell BK445.out 4).trans rfl
                    have hcz76_5 : wc.cell? ⟨gb445, 5, none⟩ = some (.int .i64 a0_5) := (blk_cell BK445.out 5).trans rfl
                    have hcz76_6 : wc.cell? ⟨gb445, 6, none⟩ = some (.int .i64 a0_6) := (blk_cell BK445.out 6).trans rfl
                    have hcz76_7 : wc.cell? ⟨gb445, 7, none⟩ = some (.int .i64 a0_7) := (blk_cell BK445.out 7).trans rfl
                    have hfz76_0 := blk_frozen BK445.out 0
                    have hfz76_1 := blk_frozen BK445.out 1
                    have hfz76_2 := blk_frozen BK445.out 2
                    have hfz76_3 := blk_frozen BK445.out 3
                    have hfz76_4 := blk_frozen BK445.out 4
                    have hfz76_5 := blk_frozen BK445.out 5
                    have hfz76_6 := blk_frozen BK445.out 6
                    have hfz76_7 := blk_frozen BK445.out 7
                    go_wp2_with (first | ((with_reducible refine gate_dst (N := 3) rfl ?_); (try (refine gate_guard (by rfl) ?_; dsimp only)); refine box_event ?hg (N := 3) ?hd (cs := #[.int .i64 0, .int .i64 0, .int .i64 0]) (t := 24) ?hr ?_; (case hd => rfl); (case hg => rfl); (case hr => first | (go_simp; done) | (go_simp; rfl)); intro gb449 hg w77 hbox hb; have n0_ := Aside0.mk (blk_below (g := gb445) (o := .cells #[.string a0_0, .string a0_1, .int .i64 a0_2, .string a0_3, .int .i64 a0_4, .int .i64 a0_5, .int .i64 a0_6, .int .i64 a0_7] 26 (0, 0)) (by (with_reducible repeat (first | refine blk_drewN ?_ _ | refine blk_drew ?_ | refine blk_alloc ?_ _)); exact BK445.out) hb); have n1_ := Aside0.mk (below_step (by repeat (first | (with_reducible first | exact HB.out | apply below_alloc | apply pw_below_drewN | apply below_drew1 | refine below_set ?_ GE445.out) | exact HB.out)) hb); have n2_ := Aside0.mk (hbox); have n3_ := Aside0.mk ((by rw [hg]; exact (below_size (by repeat (first | (with_reducible first | exact HB.out | apply below_alloc | apply pw_below_drewN | apply below_drew1 | refine below_set ?_ GE445.out) | exact HB.out))) : w.heap.size ≤ gb449)); have n4_ := Aside0.mk ((by rw [hg]; exact (below_size (by repeat (first | (with_reducible first | exact HB.out | apply below_alloc | apply pw_below_drewN | apply below_drew1 | refine below_set ?_ GE445.out) | exact HB.out))) : w.heap.size ≤ gb449)); have n5_ := Aside0.mk ((by rw [hg]; exact Nat.ne_of_lt (blk_lt (g := gb445) (o := .cells #[.string a0_0, .string a0_1, .int .i64 a0_2, .string a0_3, .int .i64 a0_4, .int .i64 a0_5, .int .i64 a0_6, .int .i64 a0_7] 26 (0, 0)) (by (with_reducible repeat (first | refine blk_drewN ?_ _ | refine blk_drew ?_ | refine blk_alloc ?_ _)); exact BK445.out)) : gb445 ≠ gb449)); have n6_ := Aside0.mk ((by rw [hg]; exact Nat.ne_of_gt (blk_lt (g := gb445) (o := .cells #[.string a0_0, .string a0_1, .int .i64 a0_2, .string a0_3, .int .i64 a0_4, .int .i64 a0_5, .int .i64 a0_6, .int .i64 a0_7] 26 (0, 0)) (by (with_reducible repeat (first | refine blk_drewN ?_ _ | refine blk_drew ?_ | refine blk_alloc ?_ _)); exact BK445.out)) : gb449 ≠ gb445)); clear BK445; clear HB; have BK445 := n0_; have HB := n1_; have BK449 := n2_; have GW449 := n3_; have GE449 := n4_; have NB445_449 := n5_; have NB449_445 := n6_; clear n0_ n1_ n2_ n3_ n4_ n5_ n6_; clear hb hbox hg; have hnb78 := NB449_445.out; have hnc78 := NB445_449.out; have hcz79_0 : w77.cell? ⟨gb449, 0, none⟩ = some (.int .i64 0) := (blk_cell BK449.out 0).trans rfl; have hcz79_1 : w77.cell? ⟨gb449, 1, none⟩ = some (.int .i64 0) := (blk_cell BK449.out 1).trans rfl; have hcz79_2 : w77.cell? ⟨gb449, 2, none⟩ = some (.int .i64 0) := (blk_cell BK449.out 2).trans rfl; have hfz79_0 := blk_frozen BK449.out 0; have hfz79_1 := blk_frozen BK449.out 1; have hfz79_2 := blk_frozen BK449.out 2))
                    go_ret
                    exact ⟨by first | rfl | (simp [errW_none, errW_some] <;> rfl) | (simp [*, errW_none, errW_some] <;> rfl), by repeat (first | (with_reducible first | exact HB.out | apply below_alloc | apply pw_below_drewN | apply below_drew1 | refine below_set ?_ GE445.out | refine below_set ?_ GE449.out) | exact HB.out)⟩
                · rw [if_neg c50] at H
                  have c50b0 : (a0_3.toList == ([] : List UInt8)) = false := beq_eq_false_iff_ne.mpr c50
                  have c50b1 : (a0_3.toList != ([] : List UInt8)) = true := bne_iff_ne.mpr c50
                  obtain rfl := Option.some.inj H
                  have hcz80_0 : wc.cell? ⟨gb445, 0, none⟩ = some (.string a0_0) := (blk_cell BK445.out 0).trans rfl
                  have hcz80_1 : wc.cell? ⟨gb445, 1, none⟩ = some (.string a0_1) := (blk_cell BK445.out 1).trans rfl
                  have hcz80_2 : wc.cell? ⟨gb445, 2, none⟩ = some (.int .i64 a0_2) := (blk_cell BK445.out 2).trans rfl
                  have hcz80_3 : wc.cell? ⟨gb445, 3, none⟩ = some (.string a0_3) := (blk_cell BK445.out 3).trans rfl
                  have hcz80_4 : wc.cell? ⟨gb445, 4, none⟩ = some (.int .i64 a0_4) := (blk_cell BK445.out 4).trans rfl
                  have hcz80_5 : wc.cell? ⟨gb445, 5, none⟩ = some (.int .i64 a0_5) := (blk_cell BK445.out 5).trans rfl
                  have hcz80_6 : wc.cell? ⟨gb445, 6, none⟩ = some (.int .i64 a0_6) := (blk_cell BK445.out 6).trans rfl
                  have hcz80_7 : wc.cell? ⟨gb445, 7, none⟩ = some (.int .i64 a0_7) := (blk_cell BK445.out 7).trans rfl
                  have hfz80_0 := blk_frozen BK445.out 0
                  have hfz80_1 := blk_frozen BK445.out 1
                  have hfz80_2 := blk_frozen BK445.out 2
                  have hfz80_3 := blk_frozen BK445.out 3
                  have hfz80_4 := blk_frozen BK445.out 4
                  have hfz80_5 := blk_frozen BK445.out 5
                  have hfz80_6 := blk_frozen BK445.out 6
                  have hfz80_7 := blk_frozen BK445.out 7
                  go_wp2
                  go_ret
                  exact ⟨by first | rfl | (simp [errW_none, errW_some] <;> rfl) | (simp [*, errW_none, errW_some] <;> rfl), by repeat (first | (with_reducible first | exact HB.out | apply below_alloc | apply pw_below_drewN | apply below_drew1 | refine below_set ?_ GE445.out) | exact HB.out)⟩
              · rw [if_neg c49] at H
                have c49b0 : (a0_2 == 3) = false := beq_eq_false_iff_ne.mpr c49
                have c49b1 : (a0_2 != 3) = true := bne_iff_ne.mpr c49
                obtain rfl := Option.some.inj H
                go_wp2
                go_ret
                exact ⟨by first | rfl | (simp [errW_none, errW_some] <;> rfl) | (simp [*, errW_none, errW_some] <;> rfl), by repeat (first | (with_reducible first | exact HB.out | apply below_alloc | apply pw_below_drewN | apply below_drew1 | refine below_set ?_ GE445.out) | exact HB.out)⟩
end Go.Proofs.Ytciiodbkhilkmaa.F
