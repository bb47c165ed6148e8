/- ViewMore, part 30: F3. -/
import Derived.Test.YtciiodbkhilkmaaProg
import Derived.Below
import Derived.Deep.Draws
import Derived.Deep.AppendLies
import Derived.Maps.AppendAt
import Derived.OwnWalk
import Derived.Laws.BytesArg
import Derived.Laws.MakeOwn
import Derived.Laws.OwnMore
import Derived.Deep.OwnRows
import Derived.Tactics
import Derived.Lib.ConvBytes
import Derived.Laws.Slices
import Derived.WalkKit
import Derived.KernelRfl
import Derived.RowKit3
import Derived.Deep.LoopGhost
import Derived.Deep.QuietTactic
import Derived.BigQuiet
import Derived.WideLaws
import Derived.Deep.DeepCutAuto
import Derived.Deep.CutBlock
import Derived.Deep.RegionHeld3
import Derived.Laws.Rows
import Derived.Lib.AppendStr
import Derived.ArgAppend
import Derived.Laws.IdiomCopy
import Derived.OrdersHeld
import Derived.Laws.BitsLemmas
import Derived.RowKit
import Derived.Laws.StructEq
import Derived.Test.YtciiodbkhilkmaaQViewMore0
import Derived.Test.YtciiodbkhilkmaaQViewMore21
import Derived.Test.YtciiodbkhilkmaaQViewMore22
namespace Go.Proofs.Ytciiodbkhilkmaa.F
open Go.RowKit Go.Proofs.YtciiodbkhilkmaaW.PrintWords Go.Proofs.YtciiodbkhilkmaaW.PrintLast Go.Proofs.YtciiodbkhilkmaaW.PrintMore
attribute [local go_sem] max2_int min2_int max_two min_two max_three min_three max_four min_four
set_option linter.unusedVariables false
set_option linter.unusedSimpArgs false
def num_Total.l0 : Nat → Int → Int → List Int → Int → Int → Option (Int × Int)
  | 0, _, _, _, _, _ => none
  | k + 1, x4, x5, x11, x12, x13 => if x13 < x12 then (if 0 ≤ x13 then (if x13 < (x11.length : Int) then (num_Total.l0 k (wrap64 (x4 + ((rd x11 x13) / 4294967296))) (wrap64 (x5 + (Go.bits .and .i64 (rd x11 x13) 4294967295))) x11 x12 (wrap64 (x13 + 1))) else (none)) else (none)) else (if (wrap64 (x4 + (x5 / 4294967296))) < (-2147483648) then (some (0, 5)) else (if (wrap64 (x4 + (x5 / 4294967296))) ≥ 2147483648 then (some (0, 5)) else (some (Go.bits .or .i64 (wrap64 ((wrap64 (x4 + (x5 / 4294967296))) * 4294967296)) (Go.bits .and .i64 x5 4294967295), 0))))
def num_Total.f (k : Nat) (l0 : List Int) : Option (Int × Int) := if (l0.length : Int) > 1073741824 then (some (0, 4)) else (num_Total.l0 k 0 0 l0 (l0.length : Int) 0)
set_option maxHeartbeats 8000000 in
set_option maxRecDepth 100000 in
theorem num_Total.calls (k : Nat) (A0 : Option Addr) (c0 : Nat) (l0 : List Int) (r1 : Int) (r2 : Int) (w : World) (hr0 : Kd.C (Kd.int .i64) w A0 l0.length l0) (hc0 : l0.length ≤ c0) (h : num_Total.f k l0 = some (r1, r2)) :
    Calls Try.prog 63 #[.slice A0 l0.length c0] w fun e w' => e = .returned (.tuple #[.int .i64 r1, .int .i64 r2]) ∧ Drawn0 w w' := by
  have HR0 := Aside0.mk hr0
  have HC0 := Aside0.mk hc0
  clear hr0 hc0
  have H : (if (l0.length : Int) > 1073741824 then (some (0, 4)) else (num_Total.l0 k 0 0 l0 (l0.length : Int) 0)) = some (r1, r2) := h
  clear h
  by_cases c2 : (l0.length : Int) > 1073741824
  · rw [if_pos c2] at H
    have c2b0 : decide (1073741824 < (l0.length : Int)) = true := decide_eq_true c2
    have c2b1 : decide (1073741824 < l0.length) = true := decide_eq_true (by omega)
    clear c2
    simp only [Option.some.injEq, Prod.mk.injEq] at H
    obtain ⟨rfl, rfl⟩ := H
    go_enter Try.func63, Try.ntmps63
    go_wp2
    go_ret2
    exact ⟨by first | rfl | (simp; done) | (simp [*]; done), by repeat (first | exact Drawn0.refl _ | apply Drawn0.step)⟩
  · rw [if_neg c2] at H
    have c2b0 : decide (1073741824 < (l0.length : Int)) = false := decide_eq_false c2
    have c2b1 : decide (1073741824 < l0.length) = false := decide_eq_false (by omega)
    clear c2
    have H' := Aside0.mk H
    clear H
    go_enter Try.func63, Try.ntmps63
    go_wp2
    go_loopg [4, 5, 13] k (fun kq v4 v5 v13 w' => ∃ (x4_1 : Int) (x5_1 : Int) (x13_1 : Int), v4 = .int .i64 x4_1 ∧ v5 = .int .i64 x5_1 ∧ v13 = .int .i64 x13_1 ∧ Aside0 (num_Total.l0 kq x4_1 x5_1 l0 (l0.length : Int) x13_1 = some (r1, r2)) ∧ Aside0 (kq ≤ k) ∧ Drawn0 w w')
    case atStart => exact ⟨(0), (0), (0), (by first | rfl | (simp; done) | (simp [*]; done)), (by first | rfl | (simp; done) | (simp [*]; done)), (by first | rfl | (simp; done) | (simp [*]; done)), H', ⟨Nat.le_refl _⟩, by repeat (first | exact Drawn0.refl _ | apply Drawn0.step)⟩
    case round =>
      clear H'
      try clear c2
      try clear c2b0
      try clear c2b1
      try clear p2
      obtain ⟨x4_1, x5_1, x13_1, rfl, rfl, rfl, HA, HK1, ⟨m1, rfl⟩⟩ := hrel
      cases gk with
      | zero => exact absurd HA.out (by simp [num_Total.l0])
      | succ k1 =>
        have H := HA.out
        clear HA
        simp only [num_Total.l0] at H
        by_cases c3 : x13_1 < (l0.length : Int)
        · rw [if_pos c3] at H
          have c3b0 : decide (x13_1 < (l0.length : Int)) = true := decide_eq_true c3
          clear c3
          by_cases c4 : 0 ≤ x13_1
          · rw [if_pos c4] at H
            have c4b0 : decide (0 ≤ x13_1) = true := decide_eq_true c4
            clear c4
            by_cases c5 : x13_1 < (l0.length : Int)
            · rw [if_pos c5] at H
              have c5b0 : decide (x13_1 < (l0.length : Int)) = true := decide_eq_true c5
              clear c5
              have H' := Aside0.mk H
              clear H
              have p101 : 0 ≤ (x13_1 : Int) := of_decide_eq_true (by first | (with_reducible assumption) | assumption)
              have q101 : x13_1 < (l0.length : Int) := of_decide_eq_true (by first | (with_reducible assumption) | assumption)
              obtain ⟨ad101, e101, hx101_0⟩ := Kd.at_int HR0.out x13_1 p101 q101
              cases e101
              replace p101 := eq_true p101
              replace q101 := eq_true q101
              go_wp2
              go_roundg k1
              case measure => have := HK1.out; omega
              case rel => exact ⟨(wrap64 (x4_1 + ((rd l0 x13_1) / 4294967296))), (wrap64 (x5_1 + (Go.bits .and .i64 (rd l0 x13_1) 4294967295))), (wrap64 (x13_1 + 1)), (by first | rfl | (simp; done) | (simp [*]; done)), (by first | rfl | (simp; done) | (simp [*]; done)), (by first | rfl | (simp; done) | (simp [*]; done)), H', ⟨by have := HK1.out; omega⟩, by repeat (first | exact Drawn0.refl _ | apply Drawn0.step)⟩
            · rw [if_neg c5] at H
              exact absurd H (by simp)
          · rw [if_neg c4] at H
            exact absurd H (by simp)
        · rw [if_neg c3] at H
          have c3b0 : decide (x13_1 < (l0.length : Int)) = false := decide_eq_false c3
          clear c3
          by_cases c6 : (wrap64 (x4_1 + (x5_1 / 4294967296))) < (-2147483648)
          · rw [if_pos c6] at H
            have c6b0 : decide ((wrap64 (x4_1 + (x5_1 / 4294967296))) < (-2147483648)) = true := decide_eq_true c6
            clear c6
            simp only [Option.some.injEq, Prod.mk.injEq] at H
            obtain ⟨rfl, rfl⟩ := H
            go_wp2
            go_ret2
            exact ⟨by first | rfl | (simp; done) | (simp [*]; done), by repeat (first | exact Drawn0.refl _ | apply Drawn0.step)⟩
          · rw [if_neg c6] at H
            have c6b0 : decide ((wrap64 (x4_1 + (x5_1 / 4294967296))) < (-2147483648)) = false := decide_eq_false c6
            clear c6
            by_cases c7 : (wrap64 (x4_1 + (x5_1 / 4294967296))) ≥ 2147483648
            · rw [if_pos c7] at H
              have c7b0 : decide (2147483648 ≤ (wrap64 (x4_1 + (x5_1 / 4294967296)))) = true := decide_eq_true c7
              clear c7
              simp only [Option.some.injEq, Prod.mk.injEq] at H
              obtain ⟨rfl, rfl⟩ := H
              go_wp2
              go_ret2
              exact ⟨by first | rfl | (simp; done) | (simp [*]; done), by repeat (first | exact Drawn0.refl _ | apply Drawn0.step)⟩
            · rw [if_neg c7] at H
              have c7b0 : decide (2147483648 ≤ (wrap64 (x4_1 + (x5_1 / 4294967296)))) = false := decide_eq_false c7
              clear c7
              simp only [Option.some.injEq, Prod.mk.injEq] at H
              obtain ⟨rfl, rfl⟩ := H
              go_wp2
              go_ret2
              exact ⟨by first | rfl | (simp; done) | (simp [*]; done), by repeat (first | exact Drawn0.refl _ | apply Drawn0.step)⟩
end Go.Proofs.Ytciiodbkhilkmaa.F
