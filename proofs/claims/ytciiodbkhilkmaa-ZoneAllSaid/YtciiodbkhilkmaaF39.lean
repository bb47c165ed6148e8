-- Written by wip/fx/fx.py (a program of this work, over the kit's print program) for Ytciiodbkhilkmaa; Lean checks it.
import Derived.Test.YtciiodbkhilkmaaF0
import Derived.Test.YtciiodbkhilkmaaF6
import Derived.Test.YtciiodbkhilkmaaF10
import Derived.Test.YtciiodbkhilkmaaF20
import Derived.Test.YtciiodbkhilkmaaF21
import Derived.Test.YtciiodbkhilkmaaF24
import Derived.Test.YtciiodbkhilkmaaF29
import Derived.Test.YtciiodbkhilkmaaF30
import Derived.Test.YtciiodbkhilkmaaF35
import Derived.Test.YtciiodbkhilkmaaF36
import Derived.Test.YtciiodbkhilkmaaF37
import Derived.Test.YtciiodbkhilkmaaF38
import Derived.Test.YtciiodbkhilkmaaGZoneA
import Derived.Test.YtciiodbkhilkmaaGZoneW
namespace Go.Proofs.Ytciiodbkhilkmaa.F
open Go.RowKit Go.Proofs.YtciiodbkhilkmaaW.PrintWords Go.Proofs.YtciiodbkhilkmaaW.PrintLast Go.Proofs.YtciiodbkhilkmaaW.PrintMore
attribute [local go_sem] max2_int min2_int max_two min_two max_three min_three max_four min_four   -- for this text's walks alone
set_option linter.unusedVariables false
set_option linter.unusedSimpArgs false

/-! ### butterylaw08_ZoneAll: function 12 -/
mutual
def butterylaw08_ZoneAll.j0 : Nat → List ByteArray → List ByteArray → ByteArray → Bool → Option (Bool)
  | 0, _, _, _, _ => none
  | k + 1, x0, x1, x2, x29 => if x29 = true then (some true) else ((some (([] : List ByteArray) : List ByteArray)).bind fun y674 => (if y674.length + x0.length < 8796093022208 then ((some (y674 ++ x0 : List ByteArray)).bind fun y677 => ((some (([] : List ByteArray) : List ByteArray)).bind fun y680 => (if y680.length + x1.length < 8796093022208 then ((some (y680 ++ x1 : List ByteArray)).bind fun y683 => ((zone_Norm.f k y677).bind fun bt686 => ((butteryref08_Norm.f k x0).bind fun bt690 => (if bt686.2 = bt690.2 then ((butteryref08_Same.f k bt686.1 bt690.1).bind fun t694 => (if t694 = true then ((zone_Right.f k y677).bind fun t695 => (if bt690.2 = 0 then ((butteryref08_Same.f k bt690.1 x0).bind fun t696 => (butterylaw08_ZoneAll.j1 k x0 x1 x2 y677 y683 (t695 != t696))) else (butterylaw08_ZoneAll.j1 k x0 x1 x2 y677 y683 (t695 != false)))) else (butterylaw08_ZoneAll.j1 k x0 x1 x2 y677 y683 true))) else (butterylaw08_ZoneAll.j1 k x0 x1 x2 y677 y683 true))))) else (none)))) else (none)))
def butterylaw08_ZoneAll.j1 : Nat → List ByteArray → List ByteArray → ByteArray → List ByteArray → List ByteArray → Bool → Option (Bool)
  | 0, _, _, _, _, _, _ => none
  | k + 1, x0, x1, x2, x7, x8, x66 => if x66 = true then (some false) else ((zone_Union.f k x7 x8).bind fun bt697 => ((some (([] : List ByteArray) : List ByteArray)).bind fun y701 => (if y701.length + x0.length < 8796093022208 then ((some (y701 ++ x0 : List ByteArray)).bind fun y704 => (if y704.length + x1.length < 8796093022208 then ((butteryref08_Norm.f k (y704 ++ x1)).bind fun bt710 => (if bt697.2 = bt710.2 then ((butteryref08_Same.f k bt697.1 bt710.1).bind fun t714 => (if t714 = true then ((zone_Inter.f k x7 x8).bind fun t715 => ((butteryref08_Inter.f k x0 x1).bind fun t718 => ((butteryref08_Same.f k t715 t718).bind fun t721 => (if t721 = true then ((zone_Without.f x7 x8).bind fun t722 => ((butteryref08_Without.f k x0 x1).bind fun t725 => ((butteryref08_Same.f k t722 t725).bind fun t728 => (butterylaw08_ZoneAll.j2 k x0 x1 x2 x7 x8 (!t728))))) else (butterylaw08_ZoneAll.j2 k x0 x1 x2 x7 x8 true))))) else (butterylaw08_ZoneAll.j2 k x0 x1 x2 x7 x8 true))) else (butterylaw08_ZoneAll.j2 k x0 x1 x2 x7 x8 true))) else (none))) else (none))))
def butterylaw08_ZoneAll.j2 : Nat → List ByteArray → List ByteArray → ByteArray → List ByteArray → List ByteArray → Bool → Option (Bool)
  | 0, _, _, _, _, _, _ => none
  | k + 1, x0, x1, x2, x7, x8, x110 => if x110 = true then (some false) else ((zone_Within.f x7 x8).bind fun t729 => ((butteryref08_Within.f k x0 x1).bind fun t730 => (if (t729 == t730) = true then ((zone_Covers.f x7 x2).bind fun t731 => ((butteryref08_Covers.f k x0 x2).bind fun t732 => (if (t731 == t732) = true then ((zone_Key.f k x2).bind fun t733 => ((butteryref08_Key.f k x2).bind fun t734 => (if (t733 == t734) = true then ((butteryref08_Same.f k x7 x0).bind fun t735 => (if t735 = true then ((butteryref08_Same.f k x8 x1).bind fun t736 => (some t736)) else (some false))) else (some false)))) else (some false)))) else (some false))))
end
def butterylaw08_ZoneAll.f (k : Nat) (l0 : List ByteArray) (l1 : List ByteArray) (a2 : ByteArray) : Option (Bool) := (butterylaw08_awake.f k).bind fun t671 => (if t671 = true then ((butteryref08_Short.f k l0).bind fun t672 => (if t672 = true then ((butteryref08_Short.f k l1).bind fun t673 => (if t673 = true then (butterylaw08_ZoneAll.j0 k l0 l1 a2 (decide ((a2.size : Int) > 200))) else (butterylaw08_ZoneAll.j0 k l0 l1 a2 true))) else (butterylaw08_ZoneAll.j0 k l0 l1 a2 true))) else (some false))
theorem butterylaw08_ZoneAll.mono_l : ∀ k, (∀ y0 y1 y2 y3, LeO (butterylaw08_ZoneAll.j0 k y0 y1 y2 y3) (butterylaw08_ZoneAll.j0 (k + 1) y0 y1 y2 y3)) ∧ (∀ y0 y1 y2 y3 y4 y5, LeO (butterylaw08_ZoneAll.j1 k y0 y1 y2 y3 y4 y5) (butterylaw08_ZoneAll.j1 (k + 1) y0 y1 y2 y3 y4 y5)) ∧ (∀ y0 y1 y2 y3 y4 y5, LeO (butterylaw08_ZoneAll.j2 k y0 y1 y2 y3 y4 y5) (butterylaw08_ZoneAll.j2 (k + 1) y0 y1 y2 y3 y4 y5))
  | 0 => ⟨fun _ _ _ _ r h => by simp [butterylaw08_ZoneAll.j0] at h, fun _ _ _ _ _ _ r h => by simp [butterylaw08_ZoneAll.j1] at h, fun _ _ _ _ _ _ r h => by simp [butterylaw08_ZoneAll.j2] at h⟩
  | k + 1 => by
    obtain ⟨ih0, ih1, ih2⟩ := butterylaw08_ZoneAll.mono_l k
    refine ⟨?_, ?_, ?_⟩
    · intro y0 y1 y2 y3
      unfold butterylaw08_ZoneAll.j0
      repeat' first
      | (with_reducible exact ih0 _ _ _ _)
      | (with_reducible exact ih1 _ _ _ _ _ _)
      | (with_reducible exact ih2 _ _ _ _ _ _)
      | (with_reducible exact butterylaw08_awake.mono _)
      | (with_reducible exact butteryref08_Covers.mono _ _ _)
      | (with_reducible exact butteryref08_Inter.mono _ _ _)
      | (with_reducible exact butteryref08_Key.mono _ _)
      | (with_reducible exact butteryref08_Norm.mono _ _)
      | (with_reducible exact butteryref08_Same.mono _ _ _)
      | (with_reducible exact butteryref08_Short.mono _ _)
      | (with_reducible exact butteryref08_Within.mono _ _ _)
      | (with_reducible exact butteryref08_Without.mono _ _ _)
      | (with_reducible exact zone_Inter.mono _ _ _)
      | (with_reducible exact zone_Key.mono _ _)
      | (with_reducible exact zone_Norm.mono _ _)
      | (with_reducible exact zone_Right.mono _ _)
      | (with_reducible exact zone_Union.mono _ _ _)
      | (with_reducible exact LeO.refl _)
      | (with_reducible exact LeO.none _)
      | (with_reducible refine LeO.ite ?_ ?_)
      | (with_reducible refine LeO.bind ?_ (fun _ => ?_))
      | exact ih0 _ _ _ _
      | exact ih1 _ _ _ _ _ _
      | exact ih2 _ _ _ _ _ _
      | exact butterylaw08_awake.mono _
      | exact butteryref08_Covers.mono _ _ _
      | exact butteryref08_Inter.mono _ _ _
      | exact butteryref08_Key.mono _ _
      | exact butteryref08_Norm.mono _ _
      | exact butteryref08_Same.mono _ _ _
      | exact butteryref08_Short.mono _ _
      | exact butteryref08_Within.mono _ _ _
      | exact butteryref08_Without.mono _ _ _
      | exact zone_Inter.mono _ _ _
      | exact zone_Key.mono _ _
      | exact zone_Norm.mono _ _
      | exact zone_Right.mono _ _
      | exact zone_Union.mono _ _ _
      | exact LeO.none _
      | refine LeO.ite ?_ ?_
      | refine LeO.bind ?_ (fun _ => ?_)
    · intro y0 y1 y2 y3 y4 y5
      unfold butterylaw08_ZoneAll.j1
      repeat' first
      | (with_reducible exact ih0 _ _ _ _)
      | (with_reducible exact ih1 _ _ _ _ _ _)
      | (with_reducible exact ih2 _ _ _ _ _ _)
      | (with_reducible exact butterylaw08_awake.mono _)
      | (with_reducible exact butteryref08_Covers.mono _ _ _)
      | (with_reducible exact butteryref08_Inter.mono _ _ _)
      | (with_reducible exact butteryref08_Key.mono _ _)
      | (with_reducible exact butteryref08_Norm.mono _ _)
      | (with_reducible exact butteryref08_Same.mono _ _ _)
      | (with_reducible exact butteryref08_Short.mono _ _)
      | (with_reducible exact butteryref08_Within.mono _ _ _)
      | (with_reducible exact butteryref08_Without.mono _ _ _)
      | (with_reducible exact zone_Inter.mono _ _ _)
      | (with_reducible exact zone_Key.mono _ _)
      | (with_reducible exact zone_Norm.mono _ _)
      | (with_reducible exact zone_Right.mono _ _)
      | (with_reducible exact zone_Union.mono _ _ _)
      | (with_reducible exact LeO.refl _)
      | (with_reducible exact LeO.none _)
      | (with_reducible refine LeO.ite ?_ ?_)
      | (with_reducible refine LeO.bind ?_ (fun _ => ?_))
      | exact ih0 _ _ _ _
      | exact ih1 _ _ _ _ _ _
      | exact ih2 _ _ _ _ _ _
      | exact butterylaw08_awake.mono _
      | exact butteryref08_Covers.mono _ _ _
      | exact butteryref08_Inter.mono _ _ _
      | exact butteryref08_Key.mono _ _
      | exact butteryref08_Norm.mono _ _
      | exact butteryref08_Same.mono _ _ _
      | exact butteryref08_Short.mono _ _
      | exact butteryref08_Within.mono _ _ _
      | exact butteryref08_Without.mono _ _ _
      | exact zone_Inter.mono _ _ _
      | exact zone_Key.mono _ _
      | exact zone_Norm.mono _ _
      | exact zone_Right.mono _ _
      | exact zone_Union.mono _ _ _
      | exact LeO.none _
      | refine LeO.ite ?_ ?_
      | refine LeO.bind ?_ (fun _ => ?_)
    · intro y0 y1 y2 y3 y4 y5
      unfold butterylaw08_ZoneAll.j2
      repeat' first
      | (with_reducible exact ih0 _ _ _ _)
      | (with_reducible exact ih1 _ _ _ _ _ _)
      | (with_reducible exact ih2 _ _ _ _ _ _)
      | (with_reducible exact butterylaw08_awake.mono _)
      | (with_reducible exact butteryref08_Covers.mono _ _ _)
      | (with_reducible exact butteryref08_Inter.mono _ _ _)
      | (with_reducible exact butteryref08_Key.mono _ _)
      | (with_reducible exact butteryref08_Norm.mono _ _)
      | (with_reducible exact butteryref08_Same.mono _ _ _)
      | (with_reducible exact butteryref08_Short.mono _ _)
      | (with_reducible exact butteryref08_Within.mono _ _ _)
      | (with_reducible exact butteryref08_Without.mono _ _ _)
      | (with_reducible exact zone_Inter.mono _ _ _)
      | (with_reducible exact zone_Key.mono _ _)
      | (with_reducible exact zone_Norm.mono _ _)
      | (with_reducible exact zone_Right.mono _ _)
      | (with_reducible exact zone_Union.mono _ _ _)
      | (with_reducible exact LeO.refl _)
      | (with_reducible exact LeO.none _)
      | (with_reducible refine LeO.ite ?_ ?_)
      | (with_reducible refine LeO.bind ?_ (fun _ => ?_))
      | exact ih0 _ _ _ _
      | exact ih1 _ _ _ _ _ _
      | exact ih2 _ _ _ _ _ _
      | exact butterylaw08_awake.mono _
      | exact butteryref08_Covers.mono _ _ _
      | exact butteryref08_Inter.mono _ _ _
      | exact butteryref08_Key.mono _ _
      | exact butteryref08_Norm.mono _ _
      | exact butteryref08_Same.mono _ _ _
      | exact butteryref08_Short.mono _ _
      | exact butteryref08_Within.mono _ _ _
      | exact butteryref08_Without.mono _ _ _
      | exact zone_Inter.mono _ _ _
      | exact zone_Key.mono _ _
      | exact zone_Norm.mono _ _
      | exact zone_Right.mono _ _
      | exact zone_Union.mono _ _ _
      | exact LeO.none _
      | refine LeO.ite ?_ ?_
      | refine LeO.bind ?_ (fun _ => ?_)
theorem butterylaw08_ZoneAll.mono : ∀ a0 a1 a2 k, LeO (butterylaw08_ZoneAll.f k a0 a1 a2) (butterylaw08_ZoneAll.f (k + 1) a0 a1 a2) := by
  intro a0 a1 a2 k
  obtain ⟨ih0, ih1, ih2⟩ := butterylaw08_ZoneAll.mono_l k
  unfold butterylaw08_ZoneAll.f
  repeat' first
      | (with_reducible exact ih0 _ _ _ _)
      | (with_reducible exact ih1 _ _ _ _ _ _)
      | (with_reducible exact ih2 _ _ _ _ _ _)
      | (with_reducible exact butterylaw08_awake.mono _)
      | (with_reducible exact butteryref08_Covers.mono _ _ _)
      | (with_reducible exact butteryref08_Inter.mono _ _ _)
      | (with_reducible exact butteryref08_Key.mono _ _)
      | (with_reducible exact butteryref08_Norm.mono _ _)
      | (with_reducible exact butteryref08_Same.mono _ _ _)
      | (with_reducible exact butteryref08_Short.mono _ _)
      | (with_reducible exact butteryref08_Within.mono _ _ _)
      | (with_reducible exact butteryref08_Without.mono _ _ _)
      | (with_reducible exact zone_Inter.mono _ _ _)
      | (with_reducible exact zone_Key.mono _ _)
      | (with_reducible exact zone_Norm.mono _ _)
      | (with_reducible exact zone_Right.mono _ _)
      | (with_reducible exact zone_Union.mono _ _ _)
      | (with_reducible exact LeO.refl _)
      | (with_reducible exact LeO.none _)
      | (with_reducible refine LeO.ite ?_ ?_)
      | (with_reducible refine LeO.bind ?_ (fun _ => ?_))
      | exact ih0 _ _ _ _
      | exact ih1 _ _ _ _ _ _
      | exact ih2 _ _ _ _ _ _
      | exact butterylaw08_awake.mono _
      | exact butteryref08_Covers.mono _ _ _
      | exact butteryref08_Inter.mono _ _ _
      | exact butteryref08_Key.mono _ _
      | exact butteryref08_Norm.mono _ _
      | exact butteryref08_Same.mono _ _ _
      | exact butteryref08_Short.mono _ _
      | exact butteryref08_Within.mono _ _ _
      | exact butteryref08_Without.mono _ _ _
      | exact zone_Inter.mono _ _ _
      | exact zone_Key.mono _ _
      | exact zone_Norm.mono _ _
      | exact zone_Right.mono _ _
      | exact zone_Union.mono _ _ _
      | exact LeO.none _
      | refine LeO.ite ?_ ?_
      | refine LeO.bind ?_ (fun _ => ?_)
set_option maxHeartbeats 8000000 in
set_option maxRecDepth 100000 in
theorem butterylaw08_ZoneAll.calls (k : Nat) (A0 : Option Addr) (c0 : Nat) (l0 : List ByteArray) (A1 : Option Addr) (c1 : Nat) (l1 : List ByteArray) (a2 : ByteArray) (r : Bool) (w : World) (hr0 : Kd.C Kd.string w A0 l0.length l0) (hc0 : l0.length ≤ c0) (hr1 : Kd.C Kd.string w A1 l1.length l1) (hc1 : l1.length ≤ c1) (h : butterylaw08_ZoneAll.f k l0 l1 a2 = some r) :
    Calls Try.prog 12 #[.slice A0 l0.length c0, .slice A1 l1.length c1, .string a2] w fun e w' => e = .returned (.bool r) ∧ Below w.heap.size w w' := by
  have HR0 := Aside0.mk hr0
  have HC0 := Aside0.mk hc0
  clear hr0 hc0
  have HR1 := Aside0.mk hr1
  have HC1 := Aside0.mk hc1
  clear hr1 hc1
  have HB := Aside0.mk (Below.refl w.heap.size w)
  have H : ((butterylaw08_awake.f k).bind fun t671 => (if t671 = true then ((butteryref08_Short.f k l0).bind fun t672 => (if t672 = true then ((butteryref08_Short.f k l1).bind fun t673 => (if t673 = true then (butterylaw08_ZoneAll.j0 k l0 l1 a2 (decide ((a2.size : Int) > 200))) else (butterylaw08_ZoneAll.j0 k l0 l1 a2 true))) else (butterylaw08_ZoneAll.j0 k l0 l1 a2 true))) else (some false))) = some r := h
  clear h
  replace H := Option.bind_eq_some_iff.mp H
  obtain ⟨t671, A40, H⟩ := H
  replace H : (if t671 = true then ((butteryref08_Short.f k l0).bind fun t672 => (if t672 = true then ((butteryref08_Short.f k l1).bind fun t673 => (if t673 = true then (butterylaw08_ZoneAll.j0 k l0 l1 a2 (decide ((a2.size : Int) > 200))) else (butterylaw08_ZoneAll.j0 k l0 l1 a2 true))) else (butterylaw08_ZoneAll.j0 k l0 l1 a2 true))) else (some false)) = some r := H
  have A4 := Aside0.mk A40
  clear A40
  by_cases c5 : t671 = true
  · subst c5
    have H1 : ((butteryref08_Short.f k l0).bind fun t672 => (if t672 = true then ((butteryref08_Short.f k l1).bind fun t673 => (if t673 = true then (butterylaw08_ZoneAll.j0 k l0 l1 a2 (decide ((a2.size : Int) > 200))) else (butterylaw08_ZoneAll.j0 k l0 l1 a2 true))) else (butterylaw08_ZoneAll.j0 k l0 l1 a2 true))) = some r := by rw [if_pos rfl] at H; exact H
    clear H
    have H := H1
    clear H1
    have HC6 := Aside0.mk H
    clear H
    go_enter Try.func12, Try.ntmps12
    go_upto_region 3 with (first | ((with_reducible refine gate_callee (f := 30) rfl ?_); refine goesL_ (some 15) rfl rfl Try.func30 (by kernel_rfl) rfl #[] rfl (by (try simp only [List.map_toArray, List.map_cons, List.map_nil]); first | done | rfl | (simp only [List.length_drop, List.length_take]; rfl)) ?_; (with_reducible refine (butterylaw08_awake.calls k  true _ A4.out).mono ?_); rintro e w7 ⟨rfl, hb⟩; refine ⟨_, rfl, ?_⟩; have n0_ := Aside0.mk (below_step (by repeat (first | (with_reducible first | exact HB.out | apply below_alloc | apply pw_below_drewN | apply below_drew1) | exact HB.out)) hb); clear HB; have HB := n0_; clear n0_; (try clear hb); (try clear hb2); (try clear hk); (try clear hi)))
    (try simp only [Act.put, List.setIfInBounds_toArray, List.set_cons_zero, List.set_cons_succ])
    go_cut [29] (fun v29 wc => ∃ (kq : Nat) (x29_5 : Bool), v29 = .bool x29_5 ∧ Aside0 (butterylaw08_ZoneAll.j0 kq l0 l1 a2 x29_5 = some r) ∧ Aside0 (kq ≤ k) ∧ Aside0 (Below w.heap.size w wc))
    case first =>
      have H := HC6.out
      clear HC6
      replace H := Option.bind_eq_some_iff.mp H
      obtain ⟨t672, A80, H⟩ := H
      replace H : (if t672 = true then ((butteryref08_Short.f k l1).bind fun t673 => (if t673 = true then (butterylaw08_ZoneAll.j0 k l0 l1 a2 (decide ((a2.size : Int) > 200))) else (butterylaw08_ZoneAll.j0 k l0 l1 a2 true))) else (butterylaw08_ZoneAll.j0 k l0 l1 a2 true)) = some r := H
      have A8 := Aside0.mk A80
      clear A80
      by_cases c9 : t672 = true
      · subst c9
        have H1 : ((butteryref08_Short.f k l1).bind fun t673 => (if t673 = true then (butterylaw08_ZoneAll.j0 k l0 l1 a2 (decide ((a2.size : Int) > 200))) else (butterylaw08_ZoneAll.j0 k l0 l1 a2 true))) = some r := by rw [if_pos rfl] at H; exact H
        clear H
        have H := H1
        clear H1
        replace H := Option.bind_eq_some_iff.mp H
        obtain ⟨t673, A100, H⟩ := H
        replace H : (if t673 = true then (butterylaw08_ZoneAll.j0 k l0 l1 a2 (decide ((a2.size : Int) > 200))) else (butterylaw08_ZoneAll.j0 k l0 l1 a2 true)) = some r := H
        have A10 := Aside0.mk A100
        clear A100
        by_cases c11 : t673 = true
        · subst c11
          have H1 : (butterylaw08_ZoneAll.j0 k l0 l1 a2 (decide ((a2.size : Int) > 200))) = some r := by rw [if_pos rfl] at H; exact H
          clear H
          have H := H1
          clear H1
          have H' := Aside0.mk H
          clear H
          go_wp2_with (first | ((with_reducible refine gate_callee (f := 23) rfl ?_); refine goesL_ (some 18) rfl rfl Try.func23 (by kernel_rfl) rfl #[.slice A0 l0.length c0] rfl (by (try simp only [List.map_toArray, List.map_cons, List.map_nil]); first | done | rfl | (simp only [List.length_drop, List.length_take]; rfl)) ?_; (with_reducible refine (butteryref08_Short.calls k _ _ l0 true _ ?side1 ?side2 A8.out).mono ?_); (case side1 => repeat (first | exact (Kd.C_below HR0.out HB.out) | (with_reducible refine Kd.C_alloc ?_ _) | (with_reducible refine Kd.C_drewN ?_ _) | (with_reducible refine Kd.C_drew ?_))); (case side2 => exact HC0.out); rintro e w' ⟨rfl, ⟨nd, rfl⟩⟩; refine ⟨_, rfl, ?_⟩) | (go_at_call 23; (with_reducible refine (butteryref08_Short.calls k _ _ l1 true _ ?side1 ?side2 A10.out).mono ?_); (case side1 => repeat (first | exact (Kd.C_below HR1.out (by repeat (first | (with_reducible first | exact HB.out | apply below_alloc | apply pw_below_drewN | apply below_drew1) | exact HB.out))) | (with_reducible refine Kd.C_alloc ?_ _) | (with_reducible refine Kd.C_drewN ?_ _) | (with_reducible refine Kd.C_drew ?_))); (case side2 => exact HC1.out); rintro e w' ⟨rfl, ⟨nd, rfl⟩⟩))
          go_meet
          case rel => exact ⟨_, (decide ((a2.size : Int) > 200)), (by first | rfl | (simp; done) | (simp [*]; done)), H', ⟨by first | omega | exact Nat.le_refl _⟩, ⟨by repeat (first | (with_reducible first | exact HB.out | apply below_alloc | apply pw_below_drewN | apply below_drew1) | exact HB.out)⟩⟩
        · replace c11 := Bool.eq_false_iff.mpr c11
          subst c11
          have H1 : (butterylaw08_ZoneAll.j0 k l0 l1 a2 true) = some r := by rw [if_neg (show ¬ (false = true) by decide)] at H; exact H
          clear H
          have H := H1
          clear H1
          have H' := Aside0.mk H
          clear H
          go_wp2_with (first | ((with_reducible refine gate_callee (f := 23) rfl ?_); refine goesL_ (some 18) rfl rfl Try.func23 (by kernel_rfl) rfl #[.slice A0 l0.length c0] rfl (by (try simp only [List.map_toArray, List.map_cons, List.map_nil]); first | done | rfl | (simp only [List.length_drop, List.length_take]; rfl)) ?_; (with_reducible refine (butteryref08_Short.calls k _ _ l0 true _ ?side1 ?side2 A8.out).mono ?_); (case side1 => repeat (first | exact (Kd.C_below HR0.out HB.out) | (with_reducible refine Kd.C_alloc ?_ _) | (with_reducible refine Kd.C_drewN ?_ _) | (with_reducible refine Kd.C_drew ?_))); (case side2 => exact HC0.out); rintro e w' ⟨rfl, ⟨nd, rfl⟩⟩; refine ⟨_, rfl, ?_⟩) | (go_at_call 23; (with_reducible refine (butteryref08_Short.calls k _ _ l1 false _ ?side1 ?side2 A10.out).mono ?_); (case side1 => repeat (first | exact (Kd.C_below HR1.out (by repeat (first | (with_reducible first | exact HB.out | apply below_alloc | apply pw_below_drewN | apply below_drew1) | exact HB.out))) | (with_reducible refine Kd.C_alloc ?_ _) | (with_reducible refine Kd.C_drewN ?_ _) | (with_reducible refine Kd.C_drew ?_))); (case side2 => exact HC1.out); rintro e w' ⟨rfl, ⟨nd, rfl⟩⟩))
          go_meet
          case rel => exact ⟨_, (true), (by first | rfl | (simp; done) | (simp [*]; done)), H', ⟨by first | omega | exact Nat.le_refl _⟩, ⟨by repeat (first | (with_reducible first | exact HB.out | apply below_alloc | apply pw_below_drewN | apply below_drew1) | exact HB.out)⟩⟩
      · replace c9 := Bool.eq_false_iff.mpr c9
        subst c9
        have H1 : (butterylaw08_ZoneAll.j0 k l0 l1 a2 true) = some r := by rw [if_neg (show ¬ (false = true) by decide)] at H; exact H
        clear H
        have H := H1
        clear H1
        have H' := Aside0.mk H
        clear H
        go_wp2_with (first | ((with_reducible refine gate_callee (f := 23) rfl ?_); refine goesL_ (some 18) rfl rfl Try.func23 (by kernel_rfl) rfl #[.slice A0 l0.length c0] rfl (by (try simp only [List.map_toArray, List.map_cons, List.map_nil]); first | done | rfl | (simp only [List.length_drop, List.length_take]; rfl)) ?_; (with_reducible refine (butteryref08_Short.calls k _ _ l0 false _ ?side1 ?side2 A8.out).mono ?_); (case side1 => repeat (first | exact (Kd.C_below HR0.out HB.out) | (with_reducible refine Kd.C_alloc ?_ _) | (with_reducible refine Kd.C_drewN ?_ _) | (with_reducible refine Kd.C_drew ?_))); (case side2 => exact HC0.out); rintro e w' ⟨rfl, ⟨nd, rfl⟩⟩; refine ⟨_, rfl, ?_⟩))
        go_meet
        case rel => exact ⟨_, (true), (by first | rfl | (simp; done) | (simp [*]; done)), H', ⟨by first | omega | exact Nat.le_refl _⟩, ⟨by repeat (first | (with_reducible first | exact HB.out | apply below_alloc | apply pw_below_drewN | apply below_drew1) | exact HB.out)⟩⟩
    case rest =>
      clear HC6
      try clear c1
      try clear c2
      try clear p2
      try clear c3
      try clear c5
      try clear c9
      try clear c11
      obtain ⟨kq, x29_5, rfl, HA, HJ5, HB⟩ := hcut
      cases kq with
      | zero => exact absurd HA.out (by simp [butterylaw08_ZoneAll.j0])
      | succ kj5 =>
        have H := HA.out
        clear HA
        simp only [butterylaw08_ZoneAll.j0] at H
        by_cases c12 : x29_5 = true
        · subst c12
          have H1 : (some true) = some r := by rw [if_pos rfl] at H; exact H
          clear H
          have H := H1
          clear H1
          obtain rfl := Option.some.inj H
          go_wp2
          go_ret
          exact ⟨by first | rfl | (simp [errW_none, errW_some] <;> rfl) | (simp [*, errW_none, errW_some] <;> rfl), by repeat (first | (with_reducible first | exact HB.out | apply below_alloc | apply pw_below_drewN | apply below_drew1) | exact HB.out)⟩
        · replace c12 := Bool.eq_false_iff.mpr c12
          subst c12
          have H1 : ((some (([] : List ByteArray) : List ByteArray)).bind fun y674 => (if y674.length + l0.length < 8796093022208 then ((some (y674 ++ l0 : List ByteArray)).bind fun y677 => ((some (([] : List ByteArray) : List ByteArray)).bind fun y680 => (if y680.length + l1.length < 8796093022208 then ((some (y680 ++ l1 : List ByteArray)).bind fun y683 => ((zone_Norm.f kj5 y677).bind fun bt686 => ((butteryref08_Norm.f kj5 l0).bind fun bt690 => (if bt686.2 = bt690.2 then ((butteryref08_Same.f kj5 bt686.1 bt690.1).bind fun t694 => (if t694 = true then ((zone_Right.f kj5 y677).bind fun t695 => (if bt690.2 = 0 then ((butteryref08_Same.f kj5 bt690.1 l0).bind fun t696 => (butterylaw08_ZoneAll.j1 kj5 l0 l1 a2 y677 y683 (t695 != t696))) else (butterylaw08_ZoneAll.j1 kj5 l0 l1 a2 y677 y683 (t695 != false)))) else (butterylaw08_ZoneAll.j1 kj5 l0 l1 a2 y677 y683 true))) else (butterylaw08_ZoneAll.j1 kj5 l0 l1 a2 y677 y683 true))))) else (none)))) else (none))) = some r := by rw [if_neg (show ¬ (false = true) by decide)] at H; exact H
          clear H
          have H := H1
          clear H1
          obtain ⟨y674, hy674⟩ : ∃ y_ : List ByteArray, y_ = (([] : List ByteArray)) := ⟨_, rfl⟩
          replace H : (if y674.length + l0.length < 8796093022208 then ((some (y674 ++ l0 : List ByteArray)).bind fun y677 => ((some (([] : List ByteArray) : List ByteArray)).bind fun y680 => (if y680.length + l1.length < 8796093022208 then ((some (y680 ++ l1 : List ByteArray)).bind fun y683 => ((zone_Norm.f kj5 y677).bind fun bt686 => ((butteryref08_Norm.f kj5 l0).bind fun bt690 => (if bt686.2 = bt690.2 then ((butteryref08_Same.f kj5 bt686.1 bt690.1).bind fun t694 => (if t694 = true then ((zone_Right.f kj5 y677).bind fun t695 => (if bt690.2 = 0 then ((butteryref08_Same.f kj5 bt690.1 l0).bind fun t696 => (butterylaw08_ZoneAll.j1 kj5 l0 l1 a2 y677 y683 (t695 != t696))) else (butterylaw08_ZoneAll.j1 kj5 l0 l1 a2 y677 y683 (t695 != false)))) else (butterylaw08_ZoneAll.j1 kj5 l0 l1 a2 y677 y683 true))) else (butterylaw08_ZoneAll.j1 kj5 l0 l1 a2 y677 y683 true))))) else (none)))) else (none)) = some r := by first | (rw [hy674]; with_reducible exact H) | (have H2_ := (Option.bind_some _ _).symm.trans H; rw [hy674]; with_reducible exact H2_) | (have H2_ := (Option.bind_some _ _).symm.trans H; with_reducible exact H2_) | with_reducible exact H | (rw [hy674]; exact H) | exact H
          have Ny674 := Aside0.mk hy674
          clear hy674
          by_cases c13 : y674.length + l0.length < 8796093022208
          · rw [if_pos c13] at H
            have LMc13 := Aside0.mk c13
            clear c13
            obtain ⟨y677, hy677⟩ : ∃ y_ : List ByteArray, y_ = (y674 ++ l0) := ⟨_, rfl⟩
            replace H : ((some (([] : List ByteArray) : List ByteArray)).bind fun y680 => (if y680.length + l1.length < 8796093022208 then ((some (y680 ++ l1 : List ByteArray)).bind fun y683 => ((zone_Norm.f kj5 y677).bind fun bt686 => ((butteryref08_Norm.f kj5 l0).bind fun bt690 => (if bt686.2 = bt690.2 then ((butteryref08_Same.f kj5 bt686.1 bt690.1).bind fun t694 => (if t694 = true then ((zone_Right.f kj5 y677).bind fun t695 => (if bt690.2 = 0 then ((butteryref08_Same.f kj5 bt690.1 l0).bind fun t696 => (butterylaw08_ZoneAll.j1 kj5 l0 l1 a2 y677 y683 (t695 != t696))) else (butterylaw08_ZoneAll.j1 kj5 l0 l1 a2 y677 y683 (t695 != false)))) else (butterylaw08_ZoneAll.j1 kj5 l0 l1 a2 y677 y683 true))) else (butterylaw08_ZoneAll.j1 kj5 l0 l1 a2 y677 y683 true))))) else (none))) = some r := by first | (rw [hy677]; with_reducible exact H) | (have H2_ := (Option.bind_some _ _).symm.trans H; rw [hy677]; with_reducible exact H2_) | (have H2_ := (Option.bind_some _ _).symm.trans H; with_reducible exact H2_) | with_reducible exact H | (rw [hy677]; exact H) | exact H
            have Ny677 := Aside0.mk hy677
            clear hy677
            obtain ⟨y680, hy680⟩ : ∃ y_ : List ByteArray, y_ = (([] : List ByteArray)) := ⟨_, rfl⟩
            replace H : (if y680.length + l1.length < 8796093022208 then ((some (y680 ++ l1 : List ByteArray)).bind fun y683 => ((zone_Norm.f kj5 y677).bind fun bt686 => ((butteryref08_Norm.f kj5 l0).bind fun bt690 => (if bt686.2 = bt690.2 then ((butteryref08_Same.f kj5 bt686.1 bt690.1).bind fun t694 => (if t694 = true then ((zone_Right.f kj5 y677).bind fun t695 => (if bt690.2 = 0 then ((butteryref08_Same.f kj5 bt690.1 l0).bind fun t696 => (butterylaw08_ZoneAll.j1 kj5 l0 l1 a2 y677 y683 (t695 != t696))) else (butterylaw08_ZoneAll.j1 kj5 l0 l1 a2 y677 y683 (t695 != false)))) else (butterylaw08_ZoneAll.j1 kj5 l0 l1 a2 y677 y683 true))) else (butterylaw08_ZoneAll.j1 kj5 l0 l1 a2 y677 y683 true))))) else (none)) = some r := by first | (rw [hy680]; with_reducible exact H) | (have H2_ := (Option.bind_some _ _).symm.trans H; rw [hy680]; with_reducible exact H2_) | (have H2_ := (Option.bind_some _ _).symm.trans H; with_reducible exact H2_) | with_reducible exact H | (rw [hy680]; exact H) | exact H
            have Ny680 := Aside0.mk hy680
            clear hy680
            by_cases c14 : y680.length + l1.length < 8796093022208
            · rw [if_pos c14] at H
              have LMc14 := Aside0.mk c14
              clear c14
              obtain ⟨y683, hy683⟩ : ∃ y_ : List ByteArray, y_ = (y680 ++ l1) := ⟨_, rfl⟩
              replace H : ((zone_Norm.f kj5 y677).bind fun bt686 => ((butteryref08_Norm.f kj5 l0).bind fun bt690 => (if bt686.2 = bt690.2 then ((butteryref08_Same.f kj5 bt686.1 bt690.1).bind fun t694 => (if t694 = true then ((zone_Right.f kj5 y677).bind fun t695 => (if bt690.2 = 0 then ((butteryref08_Same.f kj5 bt690.1 l0).bind fun t696 => (butterylaw08_ZoneAll.j1 kj5 l0 l1 a2 y677 y683 (t695 != t696))) else (butterylaw08_ZoneAll.j1 kj5 l0 l1 a2 y677 y683 (t695 != false)))) else (butterylaw08_ZoneAll.j1 kj5 l0 l1 a2 y677 y683 true))) else (butterylaw08_ZoneAll.j1 kj5 l0 l1 a2 y677 y683 true)))) = some r := by first | (rw [hy683]; with_reducible exact H) | (have H2_ := (Option.bind_some _ _).symm.trans H; rw [hy683]; with_reducible exact H2_) | (have H2_ := (Option.bind_some _ _).symm.trans H; with_reducible exact H2_) | with_reducible exact H | (rw [hy683]; exact H) | exact H
              have Ny683 := Aside0.mk hy683
              clear hy683
              replace H := Option.bind_eq_some_iff.mp H
              obtain ⟨⟨t686, t687⟩, A150, H⟩ := H
              replace H : ((butteryref08_Norm.f kj5 l0).bind fun bt690 => (if t687 = bt690.2 then ((butteryref08_Same.f kj5 t686 bt690.1).bind fun t694 => (if t694 = true then ((zone_Right.f kj5 y677).bind fun t695 => (if bt690.2 = 0 then ((butteryref08_Same.f kj5 bt690.1 l0).bind fun t696 => (butterylaw08_ZoneAll.j1 kj5 l0 l1 a2 y677 y683 (t695 != t696))) else (butterylaw08_ZoneAll.j1 kj5 l0 l1 a2 y677 y683 (t695 != false)))) else (butterylaw08_ZoneAll.j1 kj5 l0 l1 a2 y677 y683 true))) else (butterylaw08_ZoneAll.j1 kj5 l0 l1 a2 y677 y683 true))) = some r := H
              have A15 := Aside0.mk A150
              clear A150
              replace H := Option.bind_eq_some_iff.mp H
              obtain ⟨⟨t690, t691⟩, A160, H⟩ := H
              replace H : (if t687 = t691 then ((butteryref08_Same.f kj5 t686 t690).bind fun t694 => (if t694 = true then ((zone_Right.f kj5 y677).bind fun t695 => (if t691 = 0 then ((butteryref08_Same.f kj5 t690 l0).bind fun t696 => (butterylaw08_ZoneAll.j1 kj5 l0 l1 a2 y677 y683 (t695 != t696))) else (butterylaw08_ZoneAll.j1 kj5 l0 l1 a2 y677 y683 (t695 != false)))) else (butterylaw08_ZoneAll.j1 kj5 l0 l1 a2 y677 y683 true))) else (butterylaw08_ZoneAll.j1 kj5 l0 l1 a2 y677 y683 true)) = some r := H
              have A16 := Aside0.mk A160
              clear A160
              have HC17 := Aside0.mk H
              clear H
              go_upto_region 8 with (first | ((with_reducible refine gate_dst (N := 30) rfl ?_); (try (refine gate_guard (by rfl) ?_; dsimp only)); refine Kd.R_lit Kd.string _ 9 ?hg (N := 30) ?hd (xs := ([] : List ByteArray)) (inner := []) (ok := fun _ => True) (okp := fun _ => True) ?hr ?hp (fun _ hk => hk) trivial (Below.refl _ _) (Nat.le_refl _) (by simp) ?_; (case hd => rfl); (case hg => rfl); (case hr => first | (go_simp; done) | (go_simp; rfl)); (case hp => exact (Reps.none _ _)); intro v675 w18 ho19 hb hg_ hnew_; clear hg_ hnew_; (first | rw [← Ny674.out] at ho19 | (simp only [Int.reduceToNat] at ho19; rw [← Ny674.out] at ho19)); have n0_ := Aside0.mk (Kd.R_lower ho19 (below_size (by repeat (first | (with_reducible first | exact HB.out | apply below_alloc | apply pw_below_drewN | apply below_drew1) | exact HB.out)))); have n1_ := Aside0.mk (below_step (by repeat (first | (with_reducible first | exact HB.out | apply below_alloc | apply pw_below_drewN | apply below_drew1) | exact HB.out)) hb); clear HB; have HO676 := n0_; have HB := n1_; clear n0_ n1_; clear hb ho19) | ((with_reducible refine gate_builtin (b := .append) (xs := #[.tmp 30, .tmp 31]) rfl ?_); (try (refine gate_guard (by rfl) ?_; dsimp only)); at_builtin; refine Kd.R_append_rows Kd.string (w0 := w) w.heap.size rfl (.tmp 30) (.tmp 31) 29 9 (.string ⟨#[]⟩) 16 rfl Try.underlying29 info9 rfl (by decide) (by omega) v675 y674 l0 _ _ _ (fun _ => True) (fun _ => False) rfl rfl ?aO ?aR (fun _ _ h => h) (fun _ h => h.elim) ?aF ?aB ?aS ?aL ?_; (case aR => repeat (first | exact (Kd.C_below HR0.out HB.out) | (with_reducible refine Kd.C_alloc ?_ _) | (with_reducible refine Kd.C_drewN ?_ _) | (with_reducible refine Kd.C_drew ?_))); (case aB => exact (by repeat (first | (with_reducible first | exact HB.out | apply below_alloc | apply pw_below_drewN | apply below_drew1) | exact HB.out))); (case aF => exact (fun _ _ => trivial)); (case aO => exact (by (with_reducible repeat (first | apply Kd.R_alloc | apply Kd.R_drewN | apply Kd.R_drew)); exact HO676.out)); (case aS => exact (below_size (by repeat (first | (with_reducible first | exact HB.out | apply below_alloc | apply pw_below_drewN | apply below_drew1) | exact HB.out)))); (case aL => have := LMc13.out; omega); intro v678 w20 ho hb hg hat; rw [← Ny677.out] at ho; have n0_ := Aside0.mk (hb); have n1_ := Aside0.mk (ho); clear HB; clear HO676; have HB := n0_; have HO679 := n1_; clear n0_ n1_; clear ho hb hg hat) | ((with_reducible refine gate_dst (N := 33) rfl ?_); (try (refine gate_guard (by rfl) ?_; dsimp only)); refine Kd.R_lit Kd.string _ 9 ?hg (N := 33) ?hd (xs := ([] : List ByteArray)) (inner := []) (ok := fun _ => True) (okp := fun _ => True) ?hr ?hp (fun _ hk => hk) trivial (Below.refl _ _) (Nat.le_refl _) (by simp) ?_; (case hd => rfl); (case hg => rfl); (case hr => first | (go_simp; done) | (go_simp; rfl)); (case hp => exact (Reps.none _ _)); intro v681 w21 ho22 hb hg_ hnew_; clear hg_ hnew_; (first | rw [← Ny680.out] at ho22 | (simp only [Int.reduceToNat] at ho22; rw [← Ny680.out] at ho22)); have n0_ := Aside0.mk (Kd.R_elder' (by (with_reducible repeat (first | apply Kd.R_alloc | apply Kd.R_drewN | apply Kd.R_drew)); exact HO679.out) (Kd.R_base ho22) hb); have n1_ := Aside0.mk (Kd.R_lower (Kd.R_new' ho22 (Kd.R_lt (by (with_reducible repeat (first | apply Kd.R_alloc | apply Kd.R_drewN | apply Kd.R_drew)); exact HO679.out))) (below_size (by repeat (first | (with_reducible first | exact HB.out | apply below_alloc | apply pw_below_drewN | apply below_drew1) | exact HB.out)))); have n2_ := Aside0.mk (below_step (by repeat (first | (with_reducible first | exact HB.out | apply below_alloc | apply pw_below_drewN | apply below_drew1) | exact HB.out)) hb); clear HO679; clear HB; have HO679 := n0_; have HO682 := n1_; have HB := n2_; clear n0_ n1_ n2_; clear hb ho22) | ((with_reducible refine gate_builtin (b := .append) (xs := #[.tmp 33, .tmp 34]) rfl ?_); (try (refine gate_guard (by rfl) ?_; dsimp only)); at_builtin; refine Kd.R_append_rows Kd.string (w0 := w) w.heap.size rfl (.tmp 33) (.tmp 34) 29 9 (.string ⟨#[]⟩) 16 rfl Try.underlying29 info9 rfl (by decide) (by omega) v681 y680 l1 _ _ _ (fun k_ => some k_ ≠ (v678 : Value).ownBlock) (fun _ => False) rfl rfl ?aO ?aR (fun _ _ h => h) (fun _ h => h.elim) ?aF ?aB ?aS ?aL ?_; (case aR => repeat (first | exact (Kd.C_below HR1.out HB.out) | (with_reducible refine Kd.C_alloc ?_ _) | (with_reducible refine Kd.C_drewN ?_ _) | (with_reducible refine Kd.C_drew ?_))); (case aB => exact (by repeat (first | (with_reducible first | exact HB.out | apply below_alloc | apply pw_below_drewN | apply below_drew1) | exact HB.out))); (case aF => exact (fun k_ hk => Kd.fresh' (Kd.R_lt (by (with_reducible repeat (first | apply Kd.R_alloc | apply Kd.R_drewN | apply Kd.R_drew)); exact HO679.out)) k_ hk)); (case aO => exact (by (with_reducible repeat (first | apply Kd.R_alloc | apply Kd.R_drewN | apply Kd.R_drew)); exact Kd.R_mono HO682.out (fun _ hk => hk.2))); (case aS => exact (below_size (by repeat (first | (with_reducible first | exact HB.out | apply below_alloc | apply pw_below_drewN | apply below_drew1) | exact HB.out)))); (case aL => have := LMc14.out; omega); intro v684 w23 ho hb hg hat; rw [← Ny683.out] at ho; have n0_ := Aside0.mk (Kd.R_after (ok := (fun _ => True)) (by (with_reducible repeat (first | apply Kd.R_alloc | apply Kd.R_drewN | apply Kd.R_drew)); exact HO679.out) hg hat); have n1_ := Aside0.mk (hb); have n2_ := Aside0.mk (ho); clear HO679; clear HB; clear HO682; have HO679 := n0_; have HB := n1_; have HO685 := n2_; clear n0_ n1_ n2_; clear ho hb hg hat; obtain ⟨Ao24, co24, eo24⟩ := Kd.R_slice HO679.out; subst eo24) | ((with_reducible refine gate_callee (f := 31) rfl ?_); refine goesL_ (some 38) rfl rfl Try.func31 (by kernel_rfl) rfl #[.slice Ao24 y677.length co24] rfl (by (try simp only [List.map_toArray, List.map_cons, List.map_nil]); first | done | rfl | (simp only [List.length_drop, List.length_take]; rfl)) ?_; (with_reducible refine (zone_Norm.calls kj5 _ _ y677 t686 t687 _ ?side1 ?side2 A15.out).mono ?_); (case side1 => repeat (first | exact (Kd.R_reads' HO679.out).2.2 | (with_reducible refine Kd.C_alloc ?_ _) | (with_reducible refine Kd.C_drewN ?_ _) | (with_reducible refine Kd.C_drew ?_))); (case side2 => exact (Kd.R_reads' HO679.out).2.1); rintro e w25 ⟨v688, rfl, ho0, hb⟩; refine ⟨_, rfl, ?_⟩; have n0_ := Aside0.mk (Kd.R_elder' (by (with_reducible repeat (first | apply Kd.R_alloc | apply Kd.R_drewN | apply Kd.R_drew)); exact HO679.out) (Kd.R_base ho0) hb); have n1_ := Aside0.mk (Kd.R_elder' (by (with_reducible repeat (first | apply Kd.R_alloc | apply Kd.R_drewN | apply Kd.R_drew)); exact HO685.out) (Kd.R_base ho0) hb); have n2_ := Aside0.mk (Kd.R_lower (Kd.R_new' (Kd.R_new' ho0 (Kd.R_lt (by (with_reducible repeat (first | apply Kd.R_alloc | apply Kd.R_drewN | apply Kd.R_drew)); exact HO679.out))) (Kd.R_lt (by (with_reducible repeat (first | apply Kd.R_alloc | apply Kd.R_drewN | apply Kd.R_drew)); exact HO685.out))) (below_size (by repeat (first | (with_reducible first | exact HB.out | apply below_alloc | apply pw_below_drewN | apply below_drew1) | exact HB.out)))); have n3_ := Aside0.mk (below_step (by repeat (first | (with_reducible first | exact HB.out | apply below_alloc | apply pw_below_drewN | apply below_drew1) | exact HB.out)) hb); clear HO679; clear HO685; clear HB; have HO679 := n0_; have HO685 := n1_; have HO689 := n2_; have HB := n3_; clear n0_ n1_ n2_ n3_; (try clear hb); (try clear hb2); (try clear hk); (try clear hi); (try clear ho0)) | ((with_reducible refine gate_callee (f := 42) rfl ?_); refine goesL_ (some 43) rfl rfl Try.func42 (by kernel_rfl) rfl #[.slice A0 l0.length c0] rfl (by (try simp only [List.map_toArray, List.map_cons, List.map_nil]); first | done | rfl | (simp only [List.length_drop, List.length_take]; rfl)) ?_; (with_reducible refine (butteryref08_Norm.calls kj5 _ _ l0 t690 t691 _ ?side1 ?side2 A16.out).mono ?_); (case side1 => repeat (first | exact (Kd.C_below HR0.out HB.out) | (with_reducible refine Kd.C_alloc ?_ _) | (with_reducible refine Kd.C_drewN ?_ _) | (with_reducible refine Kd.C_drew ?_))); (case side2 => exact HC0.out); rintro e w26 ⟨v692, rfl, ho0, hb⟩; refine ⟨_, rfl, ?_⟩; have n0_ := Aside0.mk (Kd.R_elder' (by (with_reducible repeat (first | apply Kd.R_alloc | apply Kd.R_drewN | apply Kd.R_drew)); exact HO679.out) (Kd.R_base ho0) hb); have n1_ := Aside0.mk (Kd.R_elder' (by (with_reducible repeat (first | apply Kd.R_alloc | apply Kd.R_drewN | apply Kd.R_drew)); exact HO685.out) (Kd.R_base ho0) hb); have n2_ := Aside0.mk (Kd.R_elder' (by (with_reducible repeat (first | apply Kd.R_alloc | apply Kd.R_drewN | apply Kd.R_drew)); exact HO689.out) (Kd.R_base ho0) hb); have n3_ := Aside0.mk (Kd.R_lower (Kd.R_new' (Kd.R_new' (Kd.R_new' ho0 (Kd.R_lt (by (with_reducible repeat (first | apply Kd.R_alloc | apply Kd.R_drewN | apply Kd.R_drew)); exact HO679.out))) (Kd.R_lt (by (with_reducible repeat (first | apply Kd.R_alloc | apply Kd.R_drewN | apply Kd.R_drew)); exact HO685.out))) (Kd.R_lt (by (with_reducible repeat (first | apply Kd.R_alloc | apply Kd.R_drewN | apply Kd.R_drew)); exact HO689.out))) (below_size (by repeat (first | (with_reducible first | exact HB.out | apply below_alloc | apply pw_below_drewN | apply below_drew1) | exact HB.out)))); have n4_ := Aside0.mk (below_step (by repeat (first | (with_reducible first | exact HB.out | apply below_alloc | apply pw_below_drewN | apply below_drew1) | exact HB.out)) hb); clear HO679; clear HO685; clear HO689; clear HB; have HO679 := n0_; have HO685 := n1_; have HO689 := n2_; have HO693 := n3_; have HB := n4_; clear n0_ n1_ n2_ n3_ n4_; (try clear hb); (try clear hb2); (try clear hk); (try clear hi); (try clear ho0)))
              (try simp only [Act.put, List.setIfInBounds_toArray, List.set_cons_zero, List.set_cons_succ])
              go_cut [66] (fun v66 wc => ∃ (kq : Nat) (x66_16 : Bool), v66 = .bool x66_16 ∧ Aside0 (butterylaw08_ZoneAll.j1 kq l0 l1 a2 y677 y683 x66_16 = some r) ∧ Aside0 (kq ≤ kj5) ∧ Aside0 (Kd.R Kd.string 9 wc w.heap.size (fun k_ => some k_ ≠ (v684 : Value).ownBlock) (.slice Ao24 y677.length co24) y677) ∧ Aside0 (Kd.R Kd.string 9 wc w.heap.size (fun k_ => some k_ ≠ ((.slice Ao24 y677.length co24) : Value).ownBlock) v684 y683) ∧ Aside0 (Below w.heap.size w wc))
              case first =>
                have H := HC17.out
                clear HC17
                by_cases c27 : t687 = t691
                · rw [if_pos c27] at H
                  have c27b0 : (t687 == t691) = true := beq_iff_eq.mpr c27
                  have c27b1 : (t687 != t691) = false := bne_eq_false_iff_eq.mpr c27
                  clear c27
                  (first | rw [c27b0] | (simp only [i64_w, i32_w]; rw [c27b0]) | skip)
                  replace H := Option.bind_eq_some_iff.mp H
                  obtain ⟨t694, A280, H⟩ := H
                  replace H : (if t694 = true then ((zone_Right.f kj5 y677).bind fun t695 => (if t691 = 0 then ((butteryref08_Same.f kj5 t690 l0).bind fun t696 => (butterylaw08_ZoneAll.j1 kj5 l0 l1 a2 y677 y683 (t695 != t696))) else (butterylaw08_ZoneAll.j1 kj5 l0 l1 a2 y677 y683 (t695 != false)))) else (butterylaw08_ZoneAll.j1 kj5 l0 l1 a2 y677 y683 true)) = some r := H
                  have A28 := Aside0.mk A280
                  clear A280
                  by_cases c29 : t694 = true
                  · subst c29
                    have H1 : ((zone_Right.f kj5 y677).bind fun t695 => (if t691 = 0 then ((butteryref08_Same.f kj5 t690 l0).bind fun t696 => (butterylaw08_ZoneAll.j1 kj5 l0 l1 a2 y677 y683 (t695 != t696))) else (butterylaw08_ZoneAll.j1 kj5 l0 l1 a2 y677 y683 (t695 != false)))) = some r := by rw [if_pos rfl] at H; exact H
                    clear H
                    have H := H1
                    clear H1
                    replace H := Option.bind_eq_some_iff.mp H
                    obtain ⟨t695, A300, H⟩ := H
                    replace H : (if t691 = 0 then ((butteryref08_Same.f kj5 t690 l0).bind fun t696 => (butterylaw08_ZoneAll.j1 kj5 l0 l1 a2 y677 y683 (t695 != t696))) else (butterylaw08_ZoneAll.j1 kj5 l0 l1 a2 y677 y683 (t695 != false))) = some r := H
                    have A30 := Aside0.mk A300
                    clear A300
                    by_cases c31 : t691 = 0
                    · rw [if_pos c31] at H
                      have c31b0 : (t691 == 0) = true := beq_iff_eq.mpr c31
                      have c31b1 : (t691 != 0) = false := bne_eq_false_iff_eq.mpr c31
                      clear c31
                      replace H := Option.bind_eq_some_iff.mp H
                      obtain ⟨t696, A320, H⟩ := H
                      replace H : (butterylaw08_ZoneAll.j1 kj5 l0 l1 a2 y677 y683 (t695 != t696)) = some r := H
                      have A32 := Aside0.mk A320
                      clear A320
                      have H' := Aside0.mk H
                      clear H
                      obtain ⟨Ao33, co33, eo33⟩ := Kd.R_slice HO689.out
                      subst eo33
                      obtain ⟨Ao34, co34, eo34⟩ := Kd.R_slice HO693.out
                      subst eo34
                      go_wp2_with (first | (go_at_call 21; (with_reducible refine (butteryref08_Same.calls kj5 _ _ t686 _ _ t690 true _ ?side1 ?side2 ?side3 ?side4 A28.out).mono ?_); (case side1 => repeat (first | exact (Kd.R_reads' HO689.out).2.2 | (with_reducible refine Kd.C_alloc ?_ _) | (with_reducible refine Kd.C_drewN ?_ _) | (with_reducible refine Kd.C_drew ?_))); (case side2 => exact (Kd.R_reads' HO689.out).2.1); (case side3 => repeat (first | exact (Kd.R_reads' HO693.out).2.2 | (with_reducible refine Kd.C_alloc ?_ _) | (with_reducible refine Kd.C_drewN ?_ _) | (with_reducible refine Kd.C_drew ?_))); (case side4 => exact (Kd.R_reads' HO693.out).2.1); rintro e w' ⟨rfl, ⟨nd, rfl⟩⟩) | (go_at_call 33; (with_reducible refine (zone_Right.calls kj5 _ _ y677 t695 _ ?side1 ?side2 A30.out).mono ?_); (case side1 => repeat (first | exact (Kd.R_reads' HO679.out).2.2 | (with_reducible refine Kd.C_alloc ?_ _) | (with_reducible refine Kd.C_drewN ?_ _) | (with_reducible refine Kd.C_drew ?_))); (case side2 => exact (Kd.R_reads' HO679.out).2.1); rintro e w35 ⟨rfl, hb⟩; have n0_ := Aside0.mk (Kd.R_below (by (with_reducible repeat (first | apply Kd.R_alloc | apply Kd.R_drewN | apply Kd.R_drew)); exact HO679.out) hb); have n1_ := Aside0.mk (Kd.R_below (by (with_reducible repeat (first | apply Kd.R_alloc | apply Kd.R_drewN | apply Kd.R_drew)); exact HO685.out) hb); have n2_ := Aside0.mk (Kd.R_below (by (with_reducible repeat (first | apply Kd.R_alloc | apply Kd.R_drewN | apply Kd.R_drew)); exact HO689.out) hb); have n3_ := Aside0.mk (Kd.R_below (by (with_reducible repeat (first | apply Kd.R_alloc | apply Kd.R_drewN | apply Kd.R_drew)); exact HO693.out) hb); have n4_ := Aside0.mk (below_step (by repeat (first | (with_reducible first | exact HB.out | apply below_alloc | apply pw_below_drewN | apply below_drew1) | exact HB.out)) hb); clear HO679; clear HO685; clear HO689; clear HO693; clear HB; have HO679 := n0_; have HO685 := n1_; have HO689 := n2_; have HO693 := n3_; have HB := n4_; clear n0_ n1_ n2_ n3_ n4_; (try clear hb); (try clear hb2); (try clear hk); (try clear hi)) | (go_at_call 21; (with_reducible refine (butteryref08_Same.calls kj5 _ _ t690 _ _ l0 t696 _ ?side1 ?side2 ?side3 ?side4 A32.out).mono ?_); (case side1 => repeat (first | exact (Kd.R_reads' HO693.out).2.2 | (with_reducible refine Kd.C_alloc ?_ _) | (with_reducible refine Kd.C_drewN ?_ _) | (with_reducible refine Kd.C_drew ?_))); (case side2 => exact (Kd.R_reads' HO693.out).2.1); (case side3 => repeat (first | exact (Kd.C_below HR0.out HB.out) | (with_reducible refine Kd.C_alloc ?_ _) | (with_reducible refine Kd.C_drewN ?_ _) | (with_reducible refine Kd.C_drew ?_))); (case side4 => exact HC0.out); rintro e w' ⟨rfl, ⟨nd, rfl⟩⟩))
                      go_meet
                      case rel => exact ⟨_, ((t695 != t696)), (by first | rfl | (simp; done) | (simp [*]; done)), H', ⟨by have := HJ5.out; first | omega | exact Nat.le_refl _⟩, ⟨by (with_reducible repeat (first | apply Kd.R_alloc | apply Kd.R_drewN | apply Kd.R_drew)); exact Kd.R_mono HO679.out (fun _ hk => hk.1.1.2)⟩, ⟨by (with_reducible repeat (first | apply Kd.R_alloc | apply Kd.R_drewN | apply Kd.R_drew)); exact Kd.R_mono HO685.out (fun _ hk => hk.1.1)⟩, ⟨by repeat (first | (with_reducible first | exact HB.out | apply below_alloc | apply pw_below_drewN | apply below_drew1) | exact HB.out)⟩⟩
                    · rw [if_neg c31] at H
                      have c31b0 : (t691 == 0) = false := beq_eq_false_iff_ne.mpr c31
                      have c31b1 : (t691 != 0) = true := bne_iff_ne.mpr c31
                      have H' := Aside0.mk H
                      clear H
                      obtain ⟨Ao36, co36, eo36⟩ := Kd.R_slice HO689.out
                      subst eo36
                      obtain ⟨Ao37, co37, eo37⟩ := Kd.R_slice HO693.out
                      subst eo37
                      go_wp2_with (first | (go_at_call 21; (with_reducible refine (butteryref08_Same.calls kj5 _ _ t686 _ _ t690 true _ ?side1 ?side2 ?side3 ?side4 A28.out).mono ?_); (case side1 => repeat (first | exact (Kd.R_reads' HO689.out).2.2 | (with_reducible refine Kd.C_alloc ?_ _) | (with_reducible refine Kd.C_drewN ?_ _) | (with_reducible refine Kd.C_drew ?_))); (case side2 => exact (Kd.R_reads' HO689.out).2.1); (case side3 => repeat (first | exact (Kd.R_reads' HO693.out).2.2 | (with_reducible refine Kd.C_alloc ?_ _) | (with_reducible refine Kd.C_drewN ?_ _) | (with_reducible refine Kd.C_drew ?_))); (case side4 => exact (Kd.R_reads' HO693.out).2.1); rintro e w' ⟨rfl, ⟨nd, rfl⟩⟩) | (go_at_call 33; (with_reducible refine (zone_Right.calls kj5 _ _ y677 t695 _ ?side1 ?side2 A30.out).mono ?_); (case side1 => repeat (first | exact (Kd.R_reads' HO679.out).2.2 | (with_reducible refine Kd.C_alloc ?_ _) | (with_reducible refine Kd.C_drewN ?_ _) | (with_reducible refine Kd.C_drew ?_))); (case side2 => exact (Kd.R_reads' HO679.out).2.1); rintro e w38 ⟨rfl, hb⟩; have n0_ := Aside0.mk (Kd.R_below (by (with_reducible repeat (first | apply Kd.R_alloc | apply Kd.R_drewN | apply Kd.R_drew)); exact HO679.out) hb); have n1_ := Aside0.mk (Kd.R_below (by (with_reducible repeat (first | apply Kd.R_alloc | apply Kd.R_drewN | apply Kd.R_drew)); exact HO685.out) hb); have n2_ := Aside0.mk (Kd.R_below (by (with_reducible repeat (first | apply Kd.R_alloc | apply Kd.R_drewN | apply Kd.R_drew)); exact HO689.out) hb); have n3_ := Aside0.mk (Kd.R_below (by (with_reducible repeat (first | apply Kd.R_alloc | apply Kd.R_drewN | apply Kd.R_drew)); exact HO693.out) hb); have n4_ := Aside0.mk (below_step (by repeat (first | (with_reducible first | exact HB.out | apply below_alloc | apply pw_below_drewN | apply below_drew1) | exact HB.out)) hb); clear HO679; clear HO685; clear HO689; clear HO693; clear HB; have HO679 := n0_; have HO685 := n1_; have HO689 := n2_; have HO693 := n3_; have HB := n4_; clear n0_ n1_ n2_ n3_ n4_; (try clear hb); (try clear hb2); (try clear hk); (try clear hi)))
                      go_meet
                      case rel => exact ⟨_, ((t695 != false)), (by first | rfl | (simp; done) | (simp [*]; done)), H', ⟨by have := HJ5.out; first | omega | exact Nat.le_refl _⟩, ⟨by (with_reducible repeat (first | apply Kd.R_alloc | apply Kd.R_drewN | apply Kd.R_drew)); exact Kd.R_mono HO679.out (fun _ hk => hk.1.1.2)⟩, ⟨by (with_reducible repeat (first | apply Kd.R_alloc | apply Kd.R_drewN | apply Kd.R_drew)); exact Kd.R_mono HO685.out (fun _ hk => hk.1.1)⟩, ⟨by repeat (first | (with_reducible first | exact HB.out | apply below_alloc | apply pw_below_drewN | apply below_drew1) | exact HB.out)⟩⟩
                  · replace c29 := Bool.eq_false_iff.mpr c29
                    subst c29
                    have H1 : (butterylaw08_ZoneAll.j1 kj5 l0 l1 a2 y677 y683 true) = some r := by rw [if_neg (show ¬ (false = true) by decide)] at H; exact H
                    clear H
                    have H := H1
                    clear H1
                    have H' := Aside0.mk H
                    clear H
                    obtain ⟨Ao39, co39, eo39⟩ := Kd.R_slice HO689.out
                    subst eo39
                    obtain ⟨Ao40, co40, eo40⟩ := Kd.R_slice HO693.out
                    subst eo40
                    go_wp2_with (first | (go_at_call 21; (with_reducible refine (butteryref08_Same.calls kj5 _ _ t686 _ _ t690 false _ ?side1 ?side2 ?side3 ?side4 A28.out).mono ?_); (case side1 => repeat (first | exact (Kd.R_reads' HO689.out).2.2 | (with_reducible refine Kd.C_alloc ?_ _) | (with_reducible refine Kd.C_drewN ?_ _) | (with_reducible refine Kd.C_drew ?_))); (case side2 => exact (Kd.R_reads' HO689.out).2.1); (case side3 => repeat (first | exact (Kd.R_reads' HO693.out).2.2 | (with_reducible refine Kd.C_alloc ?_ _) | (with_reducible refine Kd.C_drewN ?_ _) | (with_reducible refine Kd.C_drew ?_))); (case side4 => exact (Kd.R_reads' HO693.out).2.1); rintro e w' ⟨rfl, ⟨nd, rfl⟩⟩))
                    go_meet
                    case rel => exact ⟨_, (true), (by first | rfl | (simp; done) | (simp [*]; done)), H', ⟨by have := HJ5.out; first | omega | exact Nat.le_refl _⟩, ⟨by (with_reducible repeat (first | apply Kd.R_alloc | apply Kd.R_drewN | apply Kd.R_drew)); exact Kd.R_mono HO679.out (fun _ hk => hk.1.1.2)⟩, ⟨by (with_reducible repeat (first | apply Kd.R_alloc | apply Kd.R_drewN | apply Kd.R_drew)); exact Kd.R_mono HO685.out (fun _ hk => hk.1.1)⟩, ⟨by repeat (first | (with_reducible first | exact HB.out | apply below_alloc | apply pw_below_drewN | apply below_drew1) | exact HB.out)⟩⟩
                · rw [if_neg c27] at H
                  have c27b0 : (t687 == t691) = false := beq_eq_false_iff_ne.mpr c27
                  have c27b1 : (t687 != t691) = true := bne_iff_ne.mpr c27
                  (first | rw [c27b0] | (simp only [i64_w, i32_w]; rw [c27b0]) | skip)
                  have H' := Aside0.mk H
                  clear H
                  go_wp2
                  go_meet
                  case rel => exact ⟨_, (true), (by first | rfl | (simp; done) | (simp [*]; done)), H', ⟨by have := HJ5.out; first | omega | exact Nat.le_refl _⟩, ⟨by (with_reducible repeat (first | apply Kd.R_alloc | apply Kd.R_drewN | apply Kd.R_drew)); exact Kd.R_mono HO679.out (fun _ hk => hk.1.1.2)⟩, ⟨by (with_reducible repeat (first | apply Kd.R_alloc | apply Kd.R_drewN | apply Kd.R_drew)); exact Kd.R_mono HO685.out (fun _ hk => hk.1.1)⟩, ⟨by repeat (first | (with_reducible first | exact HB.out | apply below_alloc | apply pw_below_drewN | apply below_drew1) | exact HB.out)⟩⟩
              case rest =>
                clear HC17
                try clear c1
                try clear c2
                try clear p2
                try clear c3
                try clear c4
                try clear c5
                try clear c9
                try clear c11
                try clear c12
                try clear c13
                try clear c14
                try clear c23
                try clear c27
                try clear c27b0
                try clear c27b1
                try clear c29
                try clear c30
                try clear c31
                try clear c31b0
                try clear c31b1
                try clear p2
                obtain ⟨kq, x66_16, rfl, HA, HJ16, HO_7, HO_8, HB⟩ := hcut
                cases kq with
                | zero => exact absurd HA.out (by simp [butterylaw08_ZoneAll.j1])
                | succ kj16 =>
                  have H := HA.out
                  clear HA
                  simp only [butterylaw08_ZoneAll.j1] at H
                  by_cases c41 : x66_16 = true
                  · subst c41
                    have H1 : (some false) = some r := by rw [if_pos rfl] at H; exact H
                    clear H
                    have H := H1
                    clear H1
                    obtain rfl := Option.some.inj H
                    go_wp2
                    go_ret
                    exact ⟨by first | rfl | (simp [errW_none, errW_some] <;> rfl) | (simp [*, errW_none, errW_some] <;> rfl), by repeat (first | (with_reducible first | exact HB.out | apply below_alloc | apply pw_below_drewN | apply below_drew1) | exact HB.out)⟩
                  · replace c41 := Bool.eq_false_iff.mpr c41
                    subst c41
                    have H1 : ((zone_Union.f kj16 y677 y683).bind fun bt697 => ((some (([] : List ByteArray) : List ByteArray)).bind fun y701 => (if y701.length + l0.length < 8796093022208 then ((some (y701 ++ l0 : List ByteArray)).bind fun y704 => (if y704.length + l1.length < 8796093022208 then ((butteryref08_Norm.f kj16 (y704 ++ l1)).bind fun bt710 => (if bt697.2 = bt710.2 then ((butteryref08_Same.f kj16 bt697.1 bt710.1).bind fun t714 => (if t714 = true then ((zone_Inter.f kj16 y677 y683).bind fun t715 => ((butteryref08_Inter.f kj16 l0 l1).bind fun t718 => ((butteryref08_Same.f kj16 t715 t718).bind fun t721 => (if t721 = true then ((zone_Without.f y677 y683).bind fun t722 => ((butteryref08_Without.f kj16 l0 l1).bind fun t725 => ((butteryref08_Same.f kj16 t722 t725).bind fun t728 => (butterylaw08_ZoneAll.j2 kj16 l0 l1 a2 y677 y683 (!t728))))) else (butterylaw08_ZoneAll.j2 kj16 l0 l1 a2 y677 y683 true))))) else (butterylaw08_ZoneAll.j2 kj16 l0 l1 a2 y677 y683 true))) else (butterylaw08_ZoneAll.j2 kj16 l0 l1 a2 y677 y683 true))) else (none))) else (none)))) = some r := by rw [if_neg (show ¬ (false = true) by decide)] at H; exact H
                    clear H
                    have H := H1
                    clear H1
                    replace H := Option.bind_eq_some_iff.mp H
                    obtain ⟨⟨t697, t700⟩, A420, H⟩ := H
                    replace H : ((some (([] : List ByteArray) : List ByteArray)).bind fun y701 => (if y701.length + l0.length < 8796093022208 then ((some (y701 ++ l0 : List ByteArray)).bind fun y704 => (if y704.length + l1.length < 8796093022208 then ((butteryref08_Norm.f kj16 (y704 ++ l1)).bind fun bt710 => (if t700 = bt710.2 then ((butteryref08_Same.f kj16 t697 bt710.1).bind fun t714 => (if t714 = true then ((zone_Inter.f kj16 y677 y683).bind fun t715 => ((butteryref08_Inter.f kj16 l0 l1).bind fun t718 => ((butteryref08_Same.f kj16 t715 t718).bind fun t721 => (if t721 = true then ((zone_Without.f y677 y683).bind fun t722 => ((butteryref08_Without.f kj16 l0 l1).bind fun t725 => ((butteryref08_Same.f kj16 t722 t725).bind fun t728 => (butterylaw08_ZoneAll.j2 kj16 l0 l1 a2 y677 y683 (!t728))))) else (butterylaw08_ZoneAll.j2 kj16 l0 l1 a2 y677 y683 true))))) else (butterylaw08_ZoneAll.j2 kj16 l0 l1 a2 y677 y683 true))) else (butterylaw08_ZoneAll.j2 kj16 l0 l1 a2 y677 y683 true))) else (none))) else (none))) = some r := H
                    have A42 := Aside0.mk A420
                    clear A420
                    obtain ⟨y701, hy701⟩ : ∃ y_ : List ByteArray, y_ = (([] : List ByteArray)) := ⟨_, rfl⟩
                    replace H : (if y701.length + l0.length < 8796093022208 then ((some (y701 ++ l0 : List ByteArray)).bind fun y704 => (if y704.length + l1.length < 8796093022208 then ((butteryref08_Norm.f kj16 (y704 ++ l1)).bind fun bt710 => (if t700 = bt710.2 then ((butteryref08_Same.f kj16 t697 bt710.1).bind fun t714 => (if t714 = true then ((zone_Inter.f kj16 y677 y683).bind fun t715 => ((butteryref08_Inter.f kj16 l0 l1).bind fun t718 => ((butteryref08_Same.f kj16 t715 t718).bind fun t721 => (if t721 = true then ((zone_Without.f y677 y683).bind fun t722 => ((butteryref08_Without.f kj16 l0 l1).bind fun t725 => ((butteryref08_Same.f kj16 t722 t725).bind fun t728 => (butterylaw08_ZoneAll.j2 kj16 l0 l1 a2 y677 y683 (!t728))))) else (butterylaw08_ZoneAll.j2 kj16 l0 l1 a2 y677 y683 true))))) else (butterylaw08_ZoneAll.j2 kj16 l0 l1 a2 y677 y683 true))) else (butterylaw08_ZoneAll.j2 kj16 l0 l1 a2 y677 y683 true))) else (none))) else (none)) = some r := by first | (rw [hy701]; with_reducible exact H) | (have H2_ := (Option.bind_some _ _).symm.trans H; rw [hy701]; with_reducible exact H2_) | (have H2_ := (Option.bind_some _ _).symm.trans H; with_reducible exact H2_) | with_reducible exact H | (rw [hy701]; exact H) | exact H
                    have Ny701 := Aside0.mk hy701
                    clear hy701
                    by_cases c43 : y701.length + l0.length < 8796093022208
                    · rw [if_pos c43] at H
                      have LMc43 := Aside0.mk c43
                      clear c43
                      obtain ⟨y704, hy704⟩ : ∃ y_ : List ByteArray, y_ = (y701 ++ l0) := ⟨_, rfl⟩
                      replace H : (if y704.length + l1.length < 8796093022208 then ((butteryref08_Norm.f kj16 (y704 ++ l1)).bind fun bt710 => (if t700 = bt710.2 then ((butteryref08_Same.f kj16 t697 bt710.1).bind fun t714 => (if t714 = true then ((zone_Inter.f kj16 y677 y683).bind fun t715 => ((butteryref08_Inter.f kj16 l0 l1).bind fun t718 => ((butteryref08_Same.f kj16 t715 t718).bind fun t721 => (if t721 = true then ((zone_Without.f y677 y683).bind fun t722 => ((butteryref08_Without.f kj16 l0 l1).bind fun t725 => ((butteryref08_Same.f kj16 t722 t725).bind fun t728 => (butterylaw08_ZoneAll.j2 kj16 l0 l1 a2 y677 y683 (!t728))))) else (butterylaw08_ZoneAll.j2 kj16 l0 l1 a2 y677 y683 true))))) else (butterylaw08_ZoneAll.j2 kj16 l0 l1 a2 y677 y683 true))) else (butterylaw08_ZoneAll.j2 kj16 l0 l1 a2 y677 y683 true))) else (none)) = some r := by first | (rw [hy704]; with_reducible exact H) | (have H2_ := (Option.bind_some _ _).symm.trans H; rw [hy704]; with_reducible exact H2_) | (have H2_ := (Option.bind_some _ _).symm.trans H; with_reducible exact H2_) | with_reducible exact H | (rw [hy704]; exact H) | exact H
                      have Ny704 := Aside0.mk hy704
                      clear hy704
                      by_cases c44 : y704.length + l1.length < 8796093022208
                      · rw [if_pos c44] at H
                        have LMc44 := Aside0.mk c44
                        clear c44
                        obtain ⟨y707, hy707⟩ : ∃ y_ : List ByteArray, y_ = (y704 ++ l1) := ⟨_, rfl⟩
                        replace H : ((butteryref08_Norm.f kj16 y707).bind fun bt710 => (if t700 = bt710.2 then ((butteryref08_Same.f kj16 t697 bt710.1).bind fun t714 => (if t714 = true then ((zone_Inter.f kj16 y677 y683).bind fun t715 => ((butteryref08_Inter.f kj16 l0 l1).bind fun t718 => ((butteryref08_Same.f kj16 t715 t718).bind fun t721 => (if t721 = true then ((zone_Without.f y677 y683).bind fun t722 => ((butteryref08_Without.f kj16 l0 l1).bind fun t725 => ((butteryref08_Same.f kj16 t722 t725).bind fun t728 => (butterylaw08_ZoneAll.j2 kj16 l0 l1 a2 y677 y683 (!t728))))) else (butterylaw08_ZoneAll.j2 kj16 l0 l1 a2 y677 y683 true))))) else (butterylaw08_ZoneAll.j2 kj16 l0 l1 a2 y677 y683 true))) else (butterylaw08_ZoneAll.j2 kj16 l0 l1 a2 y677 y683 true))) = some r := by first | (rw [hy707]; with_reducible exact H) | (have H2_ := (Option.bind_some _ _).symm.trans H; rw [hy707]; with_reducible exact H2_) | (have H2_ := (Option.bind_some _ _).symm.trans H; with_reducible exact H2_) | with_reducible exact H | (rw [hy707]; exact H) | exact H
                        have Ny707 := Aside0.mk hy707
                        clear hy707
                        replace H := Option.bind_eq_some_iff.mp H
                        obtain ⟨⟨t710, t711⟩, A450, H⟩ := H
                        replace H : (if t700 = t711 then ((butteryref08_Same.f kj16 t697 t710).bind fun t714 => (if t714 = true then ((zone_Inter.f kj16 y677 y683).bind fun t715 => ((butteryref08_Inter.f kj16 l0 l1).bind fun t718 => ((butteryref08_Same.f kj16 t715 t718).bind fun t721 => (if t721 = true then ((zone_Without.f y677 y683).bind fun t722 => ((butteryref08_Without.f kj16 l0 l1).bind fun t725 => ((butteryref08_Same.f kj16 t722 t725).bind fun t728 => (butterylaw08_ZoneAll.j2 kj16 l0 l1 a2 y677 y683 (!t728))))) else (butterylaw08_ZoneAll.j2 kj16 l0 l1 a2 y677 y683 true))))) else (butterylaw08_ZoneAll.j2 kj16 l0 l1 a2 y677 y683 true))) else (butterylaw08_ZoneAll.j2 kj16 l0 l1 a2 y677 y683 true)) = some r := H
                        have A45 := Aside0.mk A450
                        clear A450
                        have HC46 := Aside0.mk H
                        clear H
                        obtain ⟨Ao47, co47, eo47⟩ := Kd.R_slice HO_8.out
                        subst eo47
                        go_upto_region 12 with (first | ((with_reducible refine gate_callee (f := 40) rfl ?_); refine goesL_ (some 70) rfl rfl Try.func40 (by kernel_rfl) rfl #[.slice Ao24 y677.length co24, .slice Ao47 y683.length co47] rfl (by (try simp only [List.map_toArray, List.map_cons, List.map_nil]); first | done | rfl | (simp only [List.length_drop, List.length_take]; rfl)) ?_; (with_reducible refine (zone_Union.calls kj16 (fun k_ => some k_ = (.slice Ao24 y677.length co24 : Value).ownBlock) _ _ y677 (fun k_ => some k_ = (.slice Ao47 y683.length co47 : Value).ownBlock) _ _ y683 t697 t700 _ ?side1 ?side2 A42.out).mono ?_); (case side1 => exact Kd.R_V (Kd.R_tight rfl (HO_7.out))); (case side2 => exact Kd.R_V (Kd.R_tight rfl (HO_8.out))); rintro e w48 ⟨v698, rfl, ho0, hb⟩; refine ⟨_, rfl, ?_⟩; have n0_ := Aside0.mk (Kd.R_elder' (by (with_reducible repeat (first | apply Kd.R_alloc | apply Kd.R_drewN | apply Kd.R_drew)); exact HO_7.out) (Kd.R_base ho0) hb); have n1_ := Aside0.mk (Kd.R_elder' (by (with_reducible repeat (first | apply Kd.R_alloc | apply Kd.R_drewN | apply Kd.R_drew)); exact HO_8.out) (Kd.R_base ho0) hb); have n2_ := Aside0.mk (Kd.R_lower (Kd.R_new' (Kd.R_new' (Kd.R_mono (ok' := fun k_ => True) ho0 (fun _ hk_ => trivial)) (Kd.R_lt (by (with_reducible repeat (first | apply Kd.R_alloc | apply Kd.R_drewN | apply Kd.R_drew)); exact HO_7.out))) (Kd.R_lt (by (with_reducible repeat (first | apply Kd.R_alloc | apply Kd.R_drewN | apply Kd.R_drew)); exact HO_8.out))) (below_size (by repeat (first | (with_reducible first | exact HB.out | apply below_alloc | apply pw_below_drewN | apply below_drew1) | exact HB.out)))); have n3_ := Aside0.mk (below_step (by repeat (first | (with_reducible first | exact HB.out | apply below_alloc | apply pw_below_drewN | apply below_drew1) | exact HB.out)) hb); clear HO_7; clear HO_8; clear HB; have HO_7 := n0_; have HO_8 := n1_; have HO699 := n2_; have HB := n3_; clear n0_ n1_ n2_ n3_; (try clear hb); (try clear hb2); (try clear hk); (try clear hi); (try clear ho0)) | ((with_reducible refine gate_dst (N := 74) rfl ?_); (try (refine gate_guard (by rfl) ?_; dsimp only)); refine Kd.R_lit Kd.string _ 9 ?hg (N := 74) ?hd (xs := ([] : List ByteArray)) (inner := []) (ok := fun _ => True) (okp := fun _ => True) ?hr ?hp (fun _ hk => hk) trivial (Below.refl _ _) (Nat.le_refl _) (by simp) ?_; (case hd => rfl); (case hg => rfl); (case hr => first | (go_simp; done) | (go_simp; rfl)); (case hp => exact (Reps.none _ _)); intro v702 w49 ho50 hb hg_ hnew_; clear hg_ hnew_; (first | rw [← Ny701.out] at ho50 | (simp only [Int.reduceToNat] at ho50; rw [← Ny701.out] at ho50)); have n0_ := Aside0.mk (Kd.R_elder' (by (with_reducible repeat (first | apply Kd.R_alloc | apply Kd.R_drewN | apply Kd.R_drew)); exact HO_7.out) (Kd.R_base ho50) hb); have n1_ := Aside0.mk (Kd.R_elder' (by (with_reducible repeat (first | apply Kd.R_alloc | apply Kd.R_drewN | apply Kd.R_drew)); exact HO_8.out) (Kd.R_base ho50) hb); have n2_ := Aside0.mk (Kd.R_elder' (by (with_reducible repeat (first | apply Kd.R_alloc | apply Kd.R_drewN | apply Kd.R_drew)); exact HO699.out) (Kd.R_base ho50) hb); have n3_ := Aside0.mk (Kd.R_lower (Kd.R_new' (Kd.R_new' (Kd.R_new' ho50 (Kd.R_lt (by (with_reducible repeat (first | apply Kd.R_alloc | apply Kd.R_drewN | apply Kd.R_drew)); exact HO_7.out))) (Kd.R_lt (by (with_reducible repeat (first | apply Kd.R_alloc | apply Kd.R_drewN | apply Kd.R_drew)); exact HO_8.out))) (Kd.R_lt (by (with_reducible repeat (first | apply Kd.R_alloc | apply Kd.R_drewN | apply Kd.R_drew)); exact HO699.out))) (below_size (by repeat (first | (with_reducible first | exact HB.out | apply below_alloc | apply pw_below_drewN | apply below_drew1) | exact HB.out)))); have n4_ := Aside0.mk (below_step (by repeat (first | (with_reducible first | exact HB.out | apply below_alloc | apply pw_below_drewN | apply below_drew1) | exact HB.out)) hb); clear HO_7; clear HO_8; clear HO699; clear HB; have HO_7 := n0_; have HO_8 := n1_; have HO699 := n2_; have HO703 := n3_; have HB := n4_; clear n0_ n1_ n2_ n3_ n4_; clear hb ho50) | ((with_reducible refine gate_builtin (b := .append) (xs := #[.tmp 74, .tmp 75]) rfl ?_); (try (refine gate_guard (by rfl) ?_; dsimp only)); at_builtin; refine Kd.R_append_rows Kd.string (w0 := w) w.heap.size rfl (.tmp 74) (.tmp 75) 29 9 (.string ⟨#[]⟩) 16 rfl Try.underlying29 info9 rfl (by decide) (by omega) v702 y701 l0 _ _ _ (fun k_ => some k_ ≠ (.slice Ao24 y677.length co24 : Value).ownBlock ∧ some k_ ≠ (.slice Ao47 y683.length co47 : Value).ownBlock ∧ some k_ ≠ (v698 : Value).ownBlock) (fun _ => False) rfl rfl ?aO ?aR (fun _ _ h => h) (fun _ h => h.elim) ?aF ?aB ?aS ?aL ?_; (case aR => repeat (first | exact (Kd.C_below HR0.out HB.out) | (with_reducible refine Kd.C_alloc ?_ _) | (with_reducible refine Kd.C_drewN ?_ _) | (with_reducible refine Kd.C_drew ?_))); (case aB => exact (by repeat (first | (with_reducible first | exact HB.out | apply below_alloc | apply pw_below_drewN | apply below_drew1) | exact HB.out))); (case aF => exact (fun k_ hk => ⟨Kd.fresh' (Kd.R_lt (by (with_reducible repeat (first | apply Kd.R_alloc | apply Kd.R_drewN | apply Kd.R_drew)); exact HO_7.out)) k_ hk, Kd.fresh' (Kd.R_lt (by (with_reducible repeat (first | apply Kd.R_alloc | apply Kd.R_drewN | apply Kd.R_drew)); exact HO_8.out)) k_ hk, Kd.fresh' (Kd.R_lt (by (with_reducible repeat (first | apply Kd.R_alloc | apply Kd.R_drewN | apply Kd.R_drew)); exact HO699.out)) k_ hk⟩)); (case aO => exact (by (with_reducible repeat (first | apply Kd.R_alloc | apply Kd.R_drewN | apply Kd.R_drew)); exact Kd.R_mono HO703.out (fun _ hk => ⟨hk.1.1.2, ⟨hk.1.2, hk.2⟩⟩))); (case aS => exact (below_size (by repeat (first | (with_reducible first | exact HB.out | apply below_alloc | apply pw_below_drewN | apply below_drew1) | exact HB.out)))); (case aL => have := LMc43.out; omega); intro v705 w51 ho hb hg hat; rw [← Ny704.out] at ho; have n0_ := Aside0.mk (Kd.R_after (ok := (fun k_ => some k_ ≠ (.slice Ao47 y683.length co47 : Value).ownBlock ∧ some k_ ≠ (v698 : Value).ownBlock)) (by (with_reducible repeat (first | apply Kd.R_alloc | apply Kd.R_drewN | apply Kd.R_drew)); exact HO_7.out) hg hat); have n1_ := Aside0.mk (Kd.R_after (ok := (fun k_ => some k_ ≠ (.slice Ao24 y677.length co24 : Value).ownBlock ∧ some k_ ≠ (v698 : Value).ownBlock)) (by (with_reducible repeat (first | apply Kd.R_alloc | apply Kd.R_drewN | apply Kd.R_drew)); exact HO_8.out) hg hat); have n2_ := Aside0.mk (Kd.R_after (ok := (fun k_ => some k_ ≠ (.slice Ao24 y677.length co24 : Value).ownBlock ∧ some k_ ≠ (.slice Ao47 y683.length co47 : Value).ownBlock)) (by (with_reducible repeat (first | apply Kd.R_alloc | apply Kd.R_drewN | apply Kd.R_drew)); exact Kd.R_mono HO699.out (fun _ hk => ⟨⟨hk.1.1.2, hk.1.2⟩, hk.2⟩)) hg hat); have n3_ := Aside0.mk (hb); have n4_ := Aside0.mk (ho); clear HO_7; clear HO_8; clear HO699; clear HB; clear HO703; have HO_7 := n0_; have HO_8 := n1_; have HO699 := n2_; have HB := n3_; have HO706 := n4_; clear n0_ n1_ n2_ n3_ n4_; clear ho hb hg hat) | ((with_reducible refine gate_builtin (b := .append) (xs := #[.tmp 76, .tmp 77]) rfl ?_); (try (refine gate_guard (by rfl) ?_; dsimp only)); at_builtin; refine Kd.R_append_rows Kd.string (w0 := w) w.heap.size rfl (.tmp 76) (.tmp 77) 29 9 (.string ⟨#[]⟩) 16 rfl Try.underlying29 info9 rfl (by decide) (by omega) v705 y704 l1 _ _ _ (fun k_ => some k_ ≠ (.slice Ao24 y677.length co24 : Value).ownBlock ∧ some k_ ≠ (.slice Ao47 y683.length co47 : Value).ownBlock ∧ some k_ ≠ (v698 : Value).ownBlock) (fun _ => False) rfl rfl ?aO ?aR (fun _ _ h => h) (fun _ h => h.elim) ?aF ?aB ?aS ?aL ?_; (case aR => repeat (first | exact (Kd.C_below HR1.out HB.out) | (with_reducible refine Kd.C_alloc ?_ _) | (with_reducible refine Kd.C_drewN ?_ _) | (with_reducible refine Kd.C_drew ?_))); (case aB => exact (by repeat (first | (with_reducible first | exact HB.out | apply below_alloc | apply pw_below_drewN | apply below_drew1) | exact HB.out))); (case aF => exact (fun k_ hk => ⟨Kd.fresh' (Kd.R_lt (by (with_reducible repeat (first | apply Kd.R_alloc | apply Kd.R_drewN | apply Kd.R_drew)); exact HO_7.out)) k_ hk, Kd.fresh' (Kd.R_lt (by (with_reducible repeat (first | apply Kd.R_alloc | apply Kd.R_drewN | apply Kd.R_drew)); exact HO_8.out)) k_ hk, Kd.fresh' (Kd.R_lt (by (with_reducible repeat (first | apply Kd.R_alloc | apply Kd.R_drewN | apply Kd.R_drew)); exact HO699.out)) k_ hk⟩)); (case aO => exact (by (with_reducible repeat (first | apply Kd.R_alloc | apply Kd.R_drewN | apply Kd.R_drew)); exact HO706.out)); (case aS => exact (below_size (by repeat (first | (with_reducible first | exact HB.out | apply below_alloc | apply pw_below_drewN | apply below_drew1) | exact HB.out)))); (case aL => have := LMc44.out; omega); intro v708 w52 ho hb hg hat; rw [← Ny707.out] at ho; have n0_ := Aside0.mk (Kd.R_after (ok := (fun k_ => some k_ ≠ (.slice Ao47 y683.length co47 : Value).ownBlock ∧ some k_ ≠ (v698 : Value).ownBlock)) (by (with_reducible repeat (first | apply Kd.R_alloc | apply Kd.R_drewN | apply Kd.R_drew)); exact HO_7.out) hg hat); have n1_ := Aside0.mk (Kd.R_after (ok := (fun k_ => some k_ ≠ (.slice Ao24 y677.length co24 : Value).ownBlock ∧ some k_ ≠ (v698 : Value).ownBlock)) (by (with_reducible repeat (first | apply Kd.R_alloc | apply Kd.R_drewN | apply Kd.R_drew)); exact HO_8.out) hg hat); have n2_ := Aside0.mk (Kd.R_after (ok := (fun k_ => some k_ ≠ (.slice Ao24 y677.length co24 : Value).ownBlock ∧ some k_ ≠ (.slice Ao47 y683.length co47 : Value).ownBlock)) (by (with_reducible repeat (first | apply Kd.R_alloc | apply Kd.R_drewN | apply Kd.R_drew)); exact HO699.out) hg hat); have n3_ := Aside0.mk (hb); have n4_ := Aside0.mk (ho); clear HO_7; clear HO_8; clear HO699; clear HB; clear HO706; have HO_7 := n0_; have HO_8 := n1_; have HO699 := n2_; have HB := n3_; have HO709 := n4_; clear n0_ n1_ n2_ n3_ n4_; clear ho hb hg hat; obtain ⟨Ao53, co53, eo53⟩ := Kd.R_slice HO709.out; subst eo53) | ((with_reducible refine gate_callee (f := 42) rfl ?_); refine goesL_ (some 79) rfl rfl Try.func42 (by kernel_rfl) rfl #[.slice Ao53 y707.length co53] rfl (by (try simp only [List.map_toArray, List.map_cons, List.map_nil]); first | done | rfl | (simp only [List.length_drop, List.length_take]; rfl)) ?_; (with_reducible refine (butteryref08_Norm.calls kj16 _ _ y707 t710 t711 _ ?side1 ?side2 A45.out).mono ?_); (case side1 => repeat (first | exact (Kd.R_reads' HO709.out).2.2 | (with_reducible refine Kd.C_alloc ?_ _) | (with_reducible refine Kd.C_drewN ?_ _) | (with_reducible refine Kd.C_drew ?_))); (case side2 => exact (Kd.R_reads' HO709.out).2.1); rintro e w54 ⟨v712, rfl, ho0, hb⟩; refine ⟨_, rfl, ?_⟩; have n0_ := Aside0.mk (Kd.R_elder' (by (with_reducible repeat (first | apply Kd.R_alloc | apply Kd.R_drewN | apply Kd.R_drew)); exact HO_7.out) (Kd.R_base ho0) hb); have n1_ := Aside0.mk (Kd.R_elder' (by (with_reducible repeat (first | apply Kd.R_alloc | apply Kd.R_drewN | apply Kd.R_drew)); exact HO_8.out) (Kd.R_base ho0) hb); have n2_ := Aside0.mk (Kd.R_elder' (by (with_reducible repeat (first | apply Kd.R_alloc | apply Kd.R_drewN | apply Kd.R_drew)); exact HO699.out) (Kd.R_base ho0) hb); have n3_ := Aside0.mk (Kd.R_elder' (by (with_reducible repeat (first | apply Kd.R_alloc | apply Kd.R_drewN | apply Kd.R_drew)); exact HO709.out) (Kd.R_base ho0) hb); have n4_ := Aside0.mk (Kd.R_lower (Kd.R_new' (Kd.R_new' (Kd.R_new' (Kd.R_new' ho0 (Kd.R_lt (by (with_reducible repeat (first | apply Kd.R_alloc | apply Kd.R_drewN | apply Kd.R_drew)); exact HO_7.out))) (Kd.R_lt (by (with_reducible repeat (first | apply Kd.R_alloc | apply Kd.R_drewN | apply Kd.R_drew)); exact HO_8.out))) (Kd.R_lt (by (with_reducible repeat (first | apply Kd.R_alloc | apply Kd.R_drewN | apply Kd.R_drew)); exact HO699.out))) (Kd.R_lt (by (with_reducible repeat (first | apply Kd.R_alloc | apply Kd.R_drewN | apply Kd.R_drew)); exact HO709.out))) (below_size (by repeat (first | (with_reducible first | exact HB.out | apply below_alloc | apply pw_below_drewN | apply below_drew1) | exact HB.out)))); have n5_ := Aside0.mk (below_step (by repeat (first | (with_reducible first | exact HB.out | apply below_alloc | apply pw_below_drewN | apply below_drew1) | exact HB.out)) hb); clear HO_7; clear HO_8; clear HO699; clear HO709; clear HB; have HO_7 := n0_; have HO_8 := n1_; have HO699 := n2_; have HO709 := n3_; have HO713 := n4_; have HB := n5_; clear n0_ n1_ n2_ n3_ n4_ n5_; (try clear hb); (try clear hb2); (try clear hk); (try clear hi); (try clear ho0)))
                        (try simp only [Act.put, List.setIfInBounds_toArray, List.set_cons_zero, List.set_cons_succ])
                        go_cut [110] (fun v110 wc => ∃ (kq : Nat) (x110_45 : Bool), v110 = .bool x110_45 ∧ Aside0 (butterylaw08_ZoneAll.j2 kq l0 l1 a2 y677 y683 x110_45 = some r) ∧ Aside0 (kq ≤ kj16) ∧ Aside0 (Kd.R Kd.string 9 wc w.heap.size (fun k_ => some k_ ≠ ((.slice Ao47 y683.length co47) : Value).ownBlock) (.slice Ao24 y677.length co24) y677) ∧ Aside0 (Kd.R Kd.string 9 wc w.heap.size (fun k_ => some k_ ≠ ((.slice Ao24 y677.length co24) : Value).ownBlock) (.slice Ao47 y683.length co47) y683) ∧ Aside0 (Below w.heap.size w wc))
                        case first =>
                          have H := HC46.out
                          clear HC46
                          by_cases c55 : t700 = t711
                          · rw [if_pos c55] at H
                            have c55b0 : (t700 == t711) = true := beq_iff_eq.mpr c55
                            have c55b1 : (t700 != t711) = false := bne_eq_false_iff_eq.mpr c55
                            clear c55
                            (first | rw [c55b0] | (simp only [i64_w, i32_w]; rw [c55b0]) | skip)
                            replace H := Option.bind_eq_some_iff.mp H
                            obtain ⟨t714, A560, H⟩ := H
                            replace H : (if t714 = true then ((zone_Inter.f kj16 y677 y683).bind fun t715 => ((butteryref08_Inter.f kj16 l0 l1).bind fun t718 => ((butteryref08_Same.f kj16 t715 t718).bind fun t721 => (if t721 = true then ((zone_Without.f y677 y683).bind fun t722 => ((butteryref08_Without.f kj16 l0 l1).bind fun t725 => ((butteryref08_Same.f kj16 t722 t725).bind fun t728 => (butterylaw08_ZoneAll.j2 kj16 l0 l1 a2 y677 y683 (!t728))))) else (butterylaw08_ZoneAll.j2 kj16 l0 l1 a2 y677 y683 true))))) else (butterylaw08_ZoneAll.j2 kj16 l0 l1 a2 y677 y683 true)) = some r := H
                            have A56 := Aside0.mk A560
                            clear A560
                            by_cases c57 : t714 = true
                            · subst c57
                              have H1 : ((zone_Inter.f kj16 y677 y683).bind fun t715 => ((butteryref08_Inter.f kj16 l0 l1).bind fun t718 => ((butteryref08_Same.f kj16 t715 t718).bind fun t721 => (if t721 = true then ((zone_Without.f y677 y683).bind fun t722 => ((butteryref08_Without.f kj16 l0 l1).bind fun t725 => ((butteryref08_Same.f kj16 t722 t725).bind fun t728 => (butterylaw08_ZoneAll.j2 kj16 l0 l1 a2 y677 y683 (!t728))))) else (butterylaw08_ZoneAll.j2 kj16 l0 l1 a2 y677 y683 true))))) = some r := by rw [if_pos rfl] at H; exact H
                              clear H
                              have H := H1
                              clear H1
                              replace H := Option.bind_eq_some_iff.mp H
                              obtain ⟨t715, A580, H⟩ := H
                              replace H : ((butteryref08_Inter.f kj16 l0 l1).bind fun t718 => ((butteryref08_Same.f kj16 t715 t718).bind fun t721 => (if t721 = true then ((zone_Without.f y677 y683).bind fun t722 => ((butteryref08_Without.f kj16 l0 l1).bind fun t725 => ((butteryref08_Same.f kj16 t722 t725).bind fun t728 => (butterylaw08_ZoneAll.j2 kj16 l0 l1 a2 y677 y683 (!t728))))) else (butterylaw08_ZoneAll.j2 kj16 l0 l1 a2 y677 y683 true)))) = some r := H
                              have A58 := Aside0.mk A580
                              clear A580
                              replace H := Option.bind_eq_some_iff.mp H
                              obtain ⟨t718, A590, H⟩ := H
                              replace H : ((butteryref08_Same.f kj16 t715 t718).bind fun t721 => (if t721 = true then ((zone_Without.f y677 y683).bind fun t722 => ((butteryref08_Without.f kj16 l0 l1).bind fun t725 => ((butteryref08_Same.f kj16 t722 t725).bind fun t728 => (butterylaw08_ZoneAll.j2 kj16 l0 l1 a2 y677 y683 (!t728))))) else (butterylaw08_ZoneAll.j2 kj16 l0 l1 a2 y677 y683 true))) = some r := H
                              have A59 := Aside0.mk A590
                              clear A590
                              replace H := Option.bind_eq_some_iff.mp H
                              obtain ⟨t721, A600, H⟩ := H
                              replace H : (if t721 = true then ((zone_Without.f y677 y683).bind fun t722 => ((butteryref08_Without.f kj16 l0 l1).bind fun t725 => ((butteryref08_Same.f kj16 t722 t725).bind fun t728 => (butterylaw08_ZoneAll.j2 kj16 l0 l1 a2 y677 y683 (!t728))))) else (butterylaw08_ZoneAll.j2 kj16 l0 l1 a2 y677 y683 true)) = some r := H
                              have A60 := Aside0.mk A600
                              clear A600
                              by_cases c61 : t721 = true
                              · subst c61
                                have H1 : ((zone_Without.f y677 y683).bind fun t722 => ((butteryref08_Without.f kj16 l0 l1).bind fun t725 => ((butteryref08_Same.f kj16 t722 t725).bind fun t728 => (butterylaw08_ZoneAll.j2 kj16 l0 l1 a2 y677 y683 (!t728))))) = some r := by rw [if_pos rfl] at H; exact H
                                clear H
                                have H := H1
                                clear H1
                                replace H := Option.bind_eq_some_iff.mp H
                                obtain ⟨t722, A620, H⟩ := H
                                replace H : ((butteryref08_Without.f kj16 l0 l1).bind fun t725 => ((butteryref08_Same.f kj16 t722 t725).bind fun t728 => (butterylaw08_ZoneAll.j2 kj16 l0 l1 a2 y677 y683 (!t728)))) = some r := H
                                have A62 := Aside0.mk A620
                                clear A620
                                replace H := Option.bind_eq_some_iff.mp H
                                obtain ⟨t725, A630, H⟩ := H
                                replace H : ((butteryref08_Same.f kj16 t722 t725).bind fun t728 => (butterylaw08_ZoneAll.j2 kj16 l0 l1 a2 y677 y683 (!t728))) = some r := H
                                have A63 := Aside0.mk A630
                                clear A630
                                replace H := Option.bind_eq_some_iff.mp H
                                obtain ⟨t728, A640, H⟩ := H
                                replace H : (butterylaw08_ZoneAll.j2 kj16 l0 l1 a2 y677 y683 (!t728)) = some r := H
                                have A64 := Aside0.mk A640
                                clear A640
                                have H' := Aside0.mk H
                                clear H
                                obtain ⟨Ao65, co65, eo65⟩ := Kd.R_slice HO699.out
                                subst eo65
                                obtain ⟨Ao66, co66, eo66⟩ := Kd.R_slice HO713.out
                                subst eo66
                                go_wp2_with (first | (go_at_call 21; (with_reducible refine (butteryref08_Same.calls kj16 _ _ t697 _ _ t710 true _ ?side1 ?side2 ?side3 ?side4 A56.out).mono ?_); (case side1 => repeat (first | exact (Kd.R_reads' HO699.out).2.2 | (with_reducible refine Kd.C_alloc ?_ _) | (with_reducible refine Kd.C_drewN ?_ _) | (with_reducible refine Kd.C_drew ?_))); (case side2 => exact (Kd.R_reads' HO699.out).2.1); (case side3 => repeat (first | exact (Kd.R_reads' HO713.out).2.2 | (with_reducible refine Kd.C_alloc ?_ _) | (with_reducible refine Kd.C_drewN ?_ _) | (with_reducible refine Kd.C_drew ?_))); (case side4 => exact (Kd.R_reads' HO713.out).2.1); rintro e w' ⟨rfl, ⟨nd, rfl⟩⟩) | (go_at_call 39; (with_reducible refine (zone_Inter.calls kj16 _ _ y677 _ _ y683 t715 _ ?side1 ?side2 ?side3 ?side4 A58.out).mono ?_); (case side1 => repeat (first | exact (Kd.R_reads' HO_7.out).2.2 | (with_reducible refine Kd.C_alloc ?_ _) | (with_reducible refine Kd.C_drewN ?_ _) | (with_reducible refine Kd.C_drew ?_))); (case side2 => exact (Kd.R_reads' HO_7.out).2.1); (case side3 => repeat (first | exact (Kd.R_reads' HO_8.out).2.2 | (with_reducible refine Kd.C_alloc ?_ _) | (with_reducible refine Kd.C_drewN ?_ _) | (with_reducible refine Kd.C_drew ?_))); (case side4 => exact (Kd.R_reads' HO_8.out).2.1); rintro e w67 ⟨v716, rfl, ho0, hb⟩; have n0_ := Aside0.mk (Kd.R_elder' (by (with_reducible repeat (first | apply Kd.R_alloc | apply Kd.R_drewN | apply Kd.R_drew)); exact HO_7.out) (Kd.R_base ho0) hb); have n1_ := Aside0.mk (Kd.R_elder' (by (with_reducible repeat (first | apply Kd.R_alloc | apply Kd.R_drewN | apply Kd.R_drew)); exact HO_8.out) (Kd.R_base ho0) hb); have n2_ := Aside0.mk (Kd.R_elder' (by (with_reducible repeat (first | apply Kd.R_alloc | apply Kd.R_drewN | apply Kd.R_drew)); exact HO699.out) (Kd.R_base ho0) hb); have n3_ := Aside0.mk (Kd.R_elder' (by (with_reducible repeat (first | apply Kd.R_alloc | apply Kd.R_drewN | apply Kd.R_drew)); exact HO709.out) (Kd.R_base ho0) hb); have n4_ := Aside0.mk (Kd.R_elder' (by (with_reducible repeat (first | apply Kd.R_alloc | apply Kd.R_drewN | apply Kd.R_drew)); exact HO713.out) (Kd.R_base ho0) hb); have n5_ := Aside0.mk (Kd.R_lower (Kd.R_new' (Kd.R_new' (Kd.R_new' (Kd.R_new' (Kd.R_new' ho0 (Kd.R_lt (by (with_reducible repeat (first | apply Kd.R_alloc | apply Kd.R_drewN | apply Kd.R_drew)); exact HO_7.out))) (Kd.R_lt (by (with_reducible repeat (first | apply Kd.R_alloc | apply Kd.R_drewN | apply Kd.R_drew)); exact HO_8.out))) (Kd.R_lt (by (with_reducible repeat (first | apply Kd.R_alloc | apply Kd.R_drewN | apply Kd.R_drew)); exact HO699.out))) (Kd.R_lt (by (with_reducible repeat (first | apply Kd.R_alloc | apply Kd.R_drewN | apply Kd.R_drew)); exact HO709.out))) (Kd.R_lt (by (with_reducible repeat (first | apply Kd.R_alloc | apply Kd.R_drewN | apply Kd.R_drew)); exact HO713.out))) (below_size (by repeat (first | (with_reducible first | exact HB.out | apply below_alloc | apply pw_below_drewN | apply below_drew1) | exact HB.out)))); have n6_ := Aside0.mk (below_step (by repeat (first | (with_reducible first | exact HB.out | apply below_alloc | apply pw_below_drewN | apply below_drew1) | exact HB.out)) hb); clear HO_7; clear HO_8; clear HO699; clear HO709; clear HO713; clear HB; have HO_7 := n0_; have HO_8 := n1_; have HO699 := n2_; have HO709 := n3_; have HO713 := n4_; have HO717 := n5_; have HB := n6_; clear n0_ n1_ n2_ n3_ n4_ n5_ n6_; (try clear hb); (try clear hb2); (try clear hk); (try clear hi); (try clear ho0)) | (go_at_call 43; (with_reducible refine (butteryref08_Inter.calls kj16 _ _ l0 _ _ l1 t718 _ ?side1 ?side2 ?side3 ?side4 A59.out).mono ?_); (case side1 => repeat (first | exact (Kd.C_below HR0.out HB.out) | (with_reducible refine Kd.C_alloc ?_ _) | (with_reducible refine Kd.C_drewN ?_ _) | (with_reducible refine Kd.C_drew ?_))); (case side2 => exact HC0.out); (case side3 => repeat (first | exact (Kd.C_below HR1.out HB.out) | (with_reducible refine Kd.C_alloc ?_ _) | (with_reducible refine Kd.C_drewN ?_ _) | (with_reducible refine Kd.C_drew ?_))); (case side4 => exact HC1.out); rintro e w68 ⟨v719, rfl, ho0, hb⟩; have n0_ := Aside0.mk (Kd.R_elder' (by (with_reducible repeat (first | apply Kd.R_alloc | apply Kd.R_drewN | apply Kd.R_drew)); exact HO_7.out) (Kd.R_base ho0) hb); have n1_ := Aside0.mk (Kd.R_elder' (by (with_reducible repeat (first | apply Kd.R_alloc | apply Kd.R_drewN | apply Kd.R_drew)); exact HO_8.out) (Kd.R_base ho0) hb); have n2_ := Aside0.mk (Kd.R_elder' (by (with_reducible repeat (first | apply Kd.R_alloc | apply Kd.R_drewN | apply Kd.R_drew)); exact HO699.out) (Kd.R_base ho0) hb); have n3_ := Aside0.mk (Kd.R_elder' (by (with_reducible repeat (first | apply Kd.R_alloc | apply Kd.R_drewN | apply Kd.R_drew)); exact HO709.out) (Kd.R_base ho0) hb); have n4_ := Aside0.mk (Kd.R_elder' (by (with_reducible repeat (first | apply Kd.R_alloc | apply Kd.R_drewN | apply Kd.R_drew)); exact HO713.out) (Kd.R_base ho0) hb); have n5_ := Aside0.mk (Kd.R_elder' (by (with_reducible repeat (first | apply Kd.R_alloc | apply Kd.R_drewN | apply Kd.R_drew)); exact HO717.out) (Kd.R_base ho0) hb); have n6_ := Aside0.mk (Kd.R_lower (Kd.R_new' (Kd.R_new' (Kd.R_new' (Kd.R_new' (Kd.R_new' (Kd.R_new' ho0 (Kd.R_lt (by (with_reducible repeat (first | apply Kd.R_alloc | apply Kd.R_drewN | apply Kd.R_drew)); exact HO_7.out))) (Kd.R_lt (by (with_reducible repeat (first | apply Kd.R_alloc | apply Kd.R_drewN | apply Kd.R_drew)); exact HO_8.out))) (Kd.R_lt (by (with_reducible repeat (first | apply Kd.R_alloc | apply Kd.R_drewN | apply Kd.R_drew)); exact HO699.out))) (Kd.R_lt (by (with_reducible repeat (first | apply Kd.R_alloc | apply Kd.R_drewN | apply Kd.R_drew)); exact HO709.out))) (Kd.R_lt (by (with_reducible repeat (first | apply Kd.R_alloc | apply Kd.R_drewN | apply Kd.R_drew)); exact HO713.out))) (Kd.R_lt (by (with_reducible repeat (first | apply Kd.R_alloc | apply Kd.R_drewN | apply Kd.R_drew)); exact HO717.out))) (below_size (by repeat (first | (with_reducible first | exact HB.out | apply below_alloc | apply pw_below_drewN | apply below_drew1) | exact HB.out)))); have n7_ := Aside0.mk (below_step (by repeat (first | (with_reducible first | exact HB.out | apply below_alloc | apply pw_below_drewN | apply below_drew1) | exact HB.out)) hb); clear HO_7; clear HO_8; clear HO699; clear HO709; clear HO713; clear HO717; clear HB; have HO_7 := n0_; have HO_8 := n1_; have HO699 := n2_; have HO709 := n3_; have HO713 := n4_; have HO717 := n5_; have HO720 := n6_; have HB := n7_; clear n0_ n1_ n2_ n3_ n4_ n5_ n6_ n7_; (try clear hb); (try clear hb2); (try clear hk); (try clear hi); (try clear ho0); obtain ⟨Ao69, co69, eo69⟩ := Kd.R_slice HO717.out; subst eo69; obtain ⟨Ao70, co70, eo70⟩ := Kd.R_slice HO720.out; subst eo70) | (go_at_call 21; (with_reducible refine (butteryref08_Same.calls kj16 _ _ t715 _ _ t718 true _ ?side1 ?side2 ?side3 ?side4 A60.out).mono ?_); (case side1 => repeat (first | exact (Kd.R_reads' HO717.out).2.2 | (with_reducible refine Kd.C_alloc ?_ _) | (with_reducible refine Kd.C_drewN ?_ _) | (with_reducible refine Kd.C_drew ?_))); (case side2 => exact (Kd.R_reads' HO717.out).2.1); (case side3 => repeat (first | exact (Kd.R_reads' HO720.out).2.2 | (with_reducible refine Kd.C_alloc ?_ _) | (with_reducible refine Kd.C_drewN ?_ _) | (with_reducible refine Kd.C_drew ?_))); (case side4 => exact (Kd.R_reads' HO720.out).2.1); rintro e w' ⟨rfl, ⟨nd, rfl⟩⟩) | (go_at_call 41; (with_reducible refine (zone_Without.calls _ _ y677 _ _ y683 t722 _ ?side1 ?side2 ?side3 ?side4 A62.out).mono ?_); (case side1 => repeat (first | exact (Kd.R_reads' HO_7.out).2.2 | (with_reducible refine Kd.C_alloc ?_ _) | (with_reducible refine Kd.C_drewN ?_ _) | (with_reducible refine Kd.C_drew ?_))); (case side2 => exact (Kd.R_reads' HO_7.out).2.1); (case side3 => repeat (first | exact (Kd.R_reads' HO_8.out).2.2 | (with_reducible refine Kd.C_alloc ?_ _) | (with_reducible refine Kd.C_drewN ?_ _) | (with_reducible refine Kd.C_drew ?_))); (case side4 => exact (Kd.R_reads' HO_8.out).2.1); rintro e w71 ⟨v723, rfl, ho0, hb⟩; have n0_ := Aside0.mk (Kd.R_elder' (by (with_reducible repeat (first | apply Kd.R_alloc | apply Kd.R_drewN | apply Kd.R_drew)); exact HO_7.out) (Kd.R_base ho0) hb); have n1_ := Aside0.mk (Kd.R_elder' (by (with_reducible repeat (first | apply Kd.R_alloc | apply Kd.R_drewN | apply Kd.R_drew)); exact HO_8.out) (Kd.R_base ho0) hb); have n2_ := Aside0.mk (Kd.R_elder' (by (with_reducible repeat (first | apply Kd.R_alloc | apply Kd.R_drewN | apply Kd.R_drew)); exact HO699.out) (Kd.R_base ho0) hb); have n3_ := Aside0.mk (Kd.R_elder' (by (with_reducible repeat (first | apply Kd.R_alloc | apply Kd.R_drewN | apply Kd.R_drew)); exact HO709.out) (Kd.R_base ho0) hb); have n4_ := Aside0.mk (Kd.R_elder' (by (with_reducible repeat (first | apply Kd.R_alloc | apply Kd.R_drewN | apply Kd.R_drew)); exact HO713.out) (Kd.R_base ho0) hb); have n5_ := Aside0.mk (Kd.R_elder' (by (with_reducible repeat (first | apply Kd.R_alloc | apply Kd.R_drewN | apply Kd.R_drew)); exact HO717.out) (Kd.R_base ho0) hb); have n6_ := Aside0.mk (Kd.R_elder' (by (with_reducible repeat (first | apply Kd.R_alloc | apply Kd.R_drewN | apply Kd.R_drew)); exact HO720.out) (Kd.R_base ho0) hb); have n7_ := Aside0.mk (Kd.R_lower (Kd.R_new' (Kd.R_new' (Kd.R_new' (Kd.R_new' (Kd.R_new' (Kd.R_new' (Kd.R_new' ho0 (Kd.R_lt (by (with_reducible repeat (first | apply Kd.R_alloc | apply Kd.R_drewN | apply Kd.R_drew)); exact HO_7.out))) (Kd.R_lt (by (with_reducible repeat (first | apply Kd.R_alloc | apply Kd.R_drewN | apply Kd.R_drew)); exact HO_8.out))) (Kd.R_lt (by (with_reducible repeat (first | apply Kd.R_alloc | apply Kd.R_drewN | apply Kd.R_drew)); exact HO699.out))) (Kd.R_lt (by (with_reducible repeat (first | apply Kd.R_alloc | apply Kd.R_drewN | apply Kd.R_drew)); exact HO709.out))) (Kd.R_lt (by (with_reducible repeat (first | apply Kd.R_alloc | apply Kd.R_drewN | apply Kd.R_drew)); exact HO713.out))) (Kd.R_lt (by (with_reducible repeat (first | apply Kd.R_alloc | apply Kd.R_drewN | apply Kd.R_drew)); exact HO717.out))) (Kd.R_lt (by (with_reducible repeat (first | apply Kd.R_alloc | apply Kd.R_drewN | apply Kd.R_drew)); exact HO720.out))) (below_size (by repeat (first | (with_reducible first | exact HB.out | apply below_alloc | apply pw_below_drewN | apply below_drew1) | exact HB.out)))); have n8_ := Aside0.mk (below_step (by repeat (first | (with_reducible first | exact HB.out | apply below_alloc | apply pw_below_drewN | apply below_drew1) | exact HB.out)) hb); clear HO_7; clear HO_8; clear HO699; clear HO709; clear HO713; clear HO717; clear HO720; clear HB; have HO_7 := n0_; have HO_8 := n1_; have HO699 := n2_; have HO709 := n3_; have HO713 := n4_; have HO717 := n5_; have HO720 := n6_; have HO724 := n7_; have HB := n8_; clear n0_ n1_ n2_ n3_ n4_ n5_ n6_ n7_ n8_; (try clear hb); (try clear hb2); (try clear hk); (try clear hi); (try clear ho0)) | (go_at_call 44; (with_reducible refine (butteryref08_Without.calls kj16 _ _ l0 _ _ l1 t725 _ ?side1 ?side2 ?side3 ?side4 A63.out).mono ?_); (case side1 => repeat (first | exact (Kd.C_below HR0.out HB.out) | (with_reducible refine Kd.C_alloc ?_ _) | (with_reducible refine Kd.C_drewN ?_ _) | (with_reducible refine Kd.C_drew ?_))); (case side2 => exact HC0.out); (case side3 => repeat (first | exact (Kd.C_below HR1.out HB.out) | (with_reducible refine Kd.C_alloc ?_ _) | (with_reducible refine Kd.C_drewN ?_ _) | (with_reducible refine Kd.C_drew ?_))); (case side4 => exact HC1.out); rintro e w72 ⟨v726, rfl, ho0, hb⟩; have n0_ := Aside0.mk (Kd.R_elder' (by (with_reducible repeat (first | apply Kd.R_alloc | apply Kd.R_drewN | apply Kd.R_drew)); exact HO_7.out) (Kd.R_base ho0) hb); have n1_ := Aside0.mk (Kd.R_elder' (by (with_reducible repeat (first | apply Kd.R_alloc | apply Kd.R_drewN | apply Kd.R_drew)); exact HO_8.out) (Kd.R_base ho0) hb); have n2_ := Aside0.mk (Kd.R_elder' (by (with_reducible repeat (first | apply Kd.R_alloc | apply Kd.R_drewN | apply Kd.R_drew)); exact HO699.out) (Kd.R_base ho0) hb); have n3_ := Aside0.mk (Kd.R_elder' (by (with_reducible repeat (first | apply Kd.R_alloc | apply Kd.R_drewN | apply Kd.R_drew)); exact HO709.out) (Kd.R_base ho0) hb); have n4_ := Aside0.mk (Kd.R_elder' (by (with_reducible repeat (first | apply Kd.R_alloc | apply Kd.R_drewN | apply Kd.R_drew)); exact HO713.out) (Kd.R_base ho0) hb); have n5_ := Aside0.mk (Kd.R_elder' (by (with_reducible repeat (first | apply Kd.R_alloc | apply Kd.R_drewN | apply Kd.R_drew)); exact HO717.out) (Kd.R_base ho0) hb); have n6_ := Aside0.mk (Kd.R_elder' (by (with_reducible repeat (first | apply Kd.R_alloc | apply Kd.R_drewN | apply Kd.R_drew)); exact HO720.out) (Kd.R_base ho0) hb); have n7_ := Aside0.mk (Kd.R_elder' (by (with_reducible repeat (first | apply Kd.R_alloc | apply Kd.R_drewN | apply Kd.R_drew)); exact HO724.out) (Kd.R_base ho0) hb); have n8_ := Aside0.mk (Kd.R_lower (Kd.R_new' (Kd.R_new' (Kd.R_new' (Kd.R_new' (Kd.R_new' (Kd.R_new' (Kd.R_new' (Kd.R_new' ho0 (Kd.R_lt (by (with_reducible repeat (first | apply Kd.R_alloc | apply Kd.R_drewN | apply Kd.R_drew)); exact HO_7.out))) (Kd.R_lt (by (with_reducible repeat (first | apply Kd.R_alloc | apply Kd.R_drewN | apply Kd.R_drew)); exact HO_8.out))) (Kd.R_lt (by (with_reducible repeat (first | apply Kd.R_alloc | apply Kd.R_drewN | apply Kd.R_drew)); exact HO699.out))) (Kd.R_lt (by (with_reducible repeat (first | apply Kd.R_alloc | apply Kd.R_drewN | apply Kd.R_drew)); exact HO709.out))) (Kd.R_lt (by (with_reducible repeat (first | apply Kd.R_alloc | apply Kd.R_drewN | apply Kd.R_drew)); exact HO713.out))) (Kd.R_lt (by (with_reducible repeat (first | apply Kd.R_alloc | apply Kd.R_drewN | apply Kd.R_drew)); exact HO717.out))) (Kd.R_lt (by (with_reducible repeat (first | apply Kd.R_alloc | apply Kd.R_drewN | apply Kd.R_drew)); exact HO720.out))) (Kd.R_lt (by (with_reducible repeat (first | apply Kd.R_alloc | apply Kd.R_drewN | apply Kd.R_drew)); exact HO724.out))) (below_size (by repeat (first | (with_reducible first | exact HB.out | apply below_alloc | apply pw_below_drewN | apply below_drew1) | exact HB.out)))); have n9_ := Aside0.mk (below_step (by repeat (first | (with_reducible first | exact HB.out | apply below_alloc | apply pw_below_drewN | apply below_drew1) | exact HB.out)) hb); clear HO_7; clear HO_8; clear HO699; clear HO709; clear HO713; clear HO717; clear HO720; clear HO724; clear HB; have HO_7 := n0_; have HO_8 := n1_; have HO699 := n2_; have HO709 := n3_; have HO713 := n4_; have HO717 := n5_; have HO720 := n6_; have HO724 := n7_; have HO727 := n8_; have HB := n9_; clear n0_ n1_ n2_ n3_ n4_ n5_ n6_ n7_ n8_ n9_; (try clear hb); (try clear hb2); (try clear hk); (try clear hi); (try clear ho0); obtain ⟨Ao73, co73, eo73⟩ := Kd.R_slice HO724.out; subst eo73; obtain ⟨Ao74, co74, eo74⟩ := Kd.R_slice HO727.out; subst eo74) | (go_at_call 21; (with_reducible refine (butteryref08_Same.calls kj16 _ _ t722 _ _ t725 t728 _ ?side1 ?side2 ?side3 ?side4 A64.out).mono ?_); (case side1 => repeat (first | exact (Kd.R_reads' HO724.out).2.2 | (with_reducible refine Kd.C_alloc ?_ _) | (with_reducible refine Kd.C_drewN ?_ _) | (with_reducible refine Kd.C_drew ?_))); (case side2 => exact (Kd.R_reads' HO724.out).2.1); (case side3 => repeat (first | exact (Kd.R_reads' HO727.out).2.2 | (with_reducible refine Kd.C_alloc ?_ _) | (with_reducible refine Kd.C_drewN ?_ _) | (with_reducible refine Kd.C_drew ?_))); (case side4 => exact (Kd.R_reads' HO727.out).2.1); rintro e w' ⟨rfl, ⟨nd, rfl⟩⟩))
                                go_meet
                                case rel => exact ⟨_, (!t728), (by first | rfl | (simp; done) | (simp [*]; done)), H', ⟨by have := HJ5.out; have := HJ16.out; first | omega | exact Nat.le_refl _⟩, ⟨by (with_reducible repeat (first | apply Kd.R_alloc | apply Kd.R_drewN | apply Kd.R_drew)); exact Kd.R_mono HO_7.out (fun _ hk => hk.1.1.1.1.1.1.1)⟩, ⟨by (with_reducible repeat (first | apply Kd.R_alloc | apply Kd.R_drewN | apply Kd.R_drew)); exact Kd.R_mono HO_8.out (fun _ hk => hk.1.1.1.1.1.1.1)⟩, ⟨by repeat (first | (with_reducible first | exact HB.out | apply below_alloc | apply pw_below_drewN | apply below_drew1) | exact HB.out)⟩⟩
                              · replace c61 := Bool.eq_false_iff.mpr c61
                                subst c61
                                have H1 : (butterylaw08_ZoneAll.j2 kj16 l0 l1 a2 y677 y683 true) = some r := by rw [if_neg (show ¬ (false = true) by decide)] at H; exact H
                                clear H
                                have H := H1
                                clear H1
                                have H' := Aside0.mk H
                                clear H
                                obtain ⟨Ao75, co75, eo75⟩ := Kd.R_slice HO699.out
                                subst eo75
                                obtain ⟨Ao76, co76, eo76⟩ := Kd.R_slice HO713.out
                                subst eo76
                                go_wp2_with (first | (go_at_call 21; (with_reducible refine (butteryref08_Same.calls kj16 _ _ t697 _ _ t710 true _ ?side1 ?side2 ?side3 ?side4 A56.out).mono ?_); (case side1 => repeat (first | exact (Kd.R_reads' HO699.out).2.2 | (with_reducible refine Kd.C_alloc ?_ _) | (with_reducible refine Kd.C_drewN ?_ _) | (with_reducible refine Kd.C_drew ?_))); (case side2 => exact (Kd.R_reads' HO699.out).2.1); (case side3 => repeat (first | exact (Kd.R_reads' HO713.out).2.2 | (with_reducible refine Kd.C_alloc ?_ _) | (with_reducible refine Kd.C_drewN ?_ _) | (with_reducible refine Kd.C_drew ?_))); (case side4 => exact (Kd.R_reads' HO713.out).2.1); rintro e w' ⟨rfl, ⟨nd, rfl⟩⟩) | (go_at_call 39; (with_reducible refine (zone_Inter.calls kj16 _ _ y677 _ _ y683 t715 _ ?side1 ?side2 ?side3 ?side4 A58.out).mono ?_); (case side1 => repeat (first | exact (Kd.R_reads' HO_7.out).2.2 | (with_reducible refine Kd.C_alloc ?_ _) | (with_reducible refine Kd.C_drewN ?_ _) | (with_reducible refine Kd.C_drew ?_))); (case side2 => exact (Kd.R_reads' HO_7.out).2.1); (case side3 => repeat (first | exact (Kd.R_reads' HO_8.out).2.2 | (with_reducible refine Kd.C_alloc ?_ _) | (with_reducible refine Kd.C_drewN ?_ _) | (with_reducible refine Kd.C_drew ?_))); (case side4 => exact (Kd.R_reads' HO_8.out).2.1); rintro e w77 ⟨v716, rfl, ho0, hb⟩; have n0_ := Aside0.mk (Kd.R_elder' (by (with_reducible repeat (first | apply Kd.R_alloc | apply Kd.R_drewN | apply Kd.R_drew)); exact HO_7.out) (Kd.R_base ho0) hb); have n1_ := Aside0.mk (Kd.R_elder' (by (with_reducible repeat (first | apply Kd.R_alloc | apply Kd.R_drewN | apply Kd.R_drew)); exact HO_8.out) (Kd.R_base ho0) hb); have n2_ := Aside0.mk (Kd.R_elder' (by (with_reducible repeat (first | apply Kd.R_alloc | apply Kd.R_drewN | apply Kd.R_drew)); exact HO699.out) (Kd.R_base ho0) hb); have n3_ := Aside0.mk (Kd.R_elder' (by (with_reducible repeat (first | apply Kd.R_alloc | apply Kd.R_drewN | apply Kd.R_drew)); exact HO709.out) (Kd.R_base ho0) hb); have n4_ := Aside0.mk (Kd.R_elder' (by (with_reducible repeat (first | apply Kd.R_alloc | apply Kd.R_drewN | apply Kd.R_drew)); exact HO713.out) (Kd.R_base ho0) hb); have n5_ := Aside0.mk (Kd.R_lower (Kd.R_new' (Kd.R_new' (Kd.R_new' (Kd.R_new' (Kd.R_new' ho0 (Kd.R_lt (by (with_reducible repeat (first | apply Kd.R_alloc | apply Kd.R_drewN | apply Kd.R_drew)); exact HO_7.out))) (Kd.R_lt (by (with_reducible repeat (first | apply Kd.R_alloc | apply Kd.R_drewN | apply Kd.R_drew)); exact HO_8.out))) (Kd.R_lt (by (with_reducible repeat (first | apply Kd.R_alloc | apply Kd.R_drewN | apply Kd.R_drew)); exact HO699.out))) (Kd.R_lt (by (with_reducible repeat (first | apply Kd.R_alloc | apply Kd.R_drewN | apply Kd.R_drew)); exact HO709.out))) (Kd.R_lt (by (with_reducible repeat (first | apply Kd.R_alloc | apply Kd.R_drewN | apply Kd.R_drew)); exact HO713.out))) (below_size (by repeat (first | (with_reducible first | exact HB.out | apply below_alloc | apply pw_below_drewN | apply below_drew1) | exact HB.out)))); have n6_ := Aside0.mk (below_step (by repeat (first | (with_reducible first | exact HB.out | apply below_alloc | apply pw_below_drewN | apply below_drew1) | exact HB.out)) hb); clear HO_7; clear HO_8; clear HO699; clear HO709; clear HO713; clear HB; have HO_7 := n0_; have HO_8 := n1_; have HO699 := n2_; have HO709 := n3_; have HO713 := n4_; have HO717 := n5_; have HB := n6_; clear n0_ n1_ n2_ n3_ n4_ n5_ n6_; (try clear hb); (try clear hb2); (try clear hk); (try clear hi); (try clear ho0)) | (go_at_call 43; (with_reducible refine (butteryref08_Inter.calls kj16 _ _ l0 _ _ l1 t718 _ ?side1 ?side2 ?side3 ?side4 A59.out).mono ?_); (case side1 => repeat (first | exact (Kd.C_below HR0.out HB.out) | (with_reducible refine Kd.C_alloc ?_ _) | (with_reducible refine Kd.C_drewN ?_ _) | (with_reducible refine Kd.C_drew ?_))); (case side2 => exact HC0.out); (case side3 => repeat (first | exact (Kd.C_below HR1.out HB.out) | (with_reducible refine Kd.C_alloc ?_ _) | (with_reducible refine Kd.C_drewN ?_ _) | (with_reducible refine Kd.C_drew ?_))); (case side4 => exact HC1.out); rintro e w78 ⟨v719, rfl, ho0, hb⟩; have n0_ := Aside0.mk (Kd.R_elder' (by (with_reducible repeat (first | apply Kd.R_alloc | apply Kd.R_drewN | apply Kd.R_drew)); exact HO_7.out) (Kd.R_base ho0) hb); have n1_ := Aside0.mk (Kd.R_elder' (by (with_reducible repeat (first | apply Kd.R_alloc | apply Kd.R_drewN | apply Kd.R_drew)); exact HO_8.out) (Kd.R_base ho0) hb); have n2_ := Aside0.mk (Kd.R_elder' (by (with_reducible repeat (first | apply Kd.R_alloc | apply Kd.R_drewN | apply Kd.R_drew)); exact HO699.out) (Kd.R_base ho0) hb); have n3_ := Aside0.mk (Kd.R_elder' (by (with_reducible repeat (first | apply Kd.R_alloc | apply Kd.R_drewN | apply Kd.R_drew)); exact HO709.out) (Kd.R_base ho0) hb); have n4_ := Aside0.mk (Kd.R_elder' (by (with_reducible repeat (first | apply Kd.R_alloc | apply Kd.R_drewN | apply Kd.R_drew)); exact HO713.out) (Kd.R_base ho0) hb); have n5_ := Aside0.mk (Kd.R_elder' (by (with_reducible repeat (first | apply Kd.R_alloc | apply Kd.R_drewN | apply Kd.R_drew)); exact HO717.out) (Kd.R_base ho0) hb); have n6_ := Aside0.mk (Kd.R_lower (Kd.R_new' (Kd.R_new' (Kd.R_new' (Kd.R_new' (Kd.R_new' (Kd.R_new' ho0 (Kd.R_lt (by (with_reducible repeat (first | apply Kd.R_alloc | apply Kd.R_drewN | apply Kd.R_drew)); exact HO_7.out))) (Kd.R_lt (by (with_reducible repeat (first | apply Kd.R_alloc | apply Kd.R_drewN | apply Kd.R_drew)); exact HO_8.out))) (Kd.R_lt (by (with_reducible repeat (first | apply Kd.R_alloc | apply Kd.R_drewN | apply Kd.R_drew)); exact HO699.out))) (Kd.R_lt (by (with_reducible repeat (first | apply Kd.R_alloc | apply Kd.R_drewN | apply Kd.R_drew)); exact HO709.out))) (Kd.R_lt (by (with_reducible repeat (first | apply Kd.R_alloc | apply Kd.R_drewN | apply Kd.R_drew)); exact HO713.out))) (Kd.R_lt (by (with_reducible repeat (first | apply Kd.R_alloc | apply Kd.R_drewN | apply Kd.R_drew)); exact HO717.out))) (below_size (by repeat (first | (with_reducible first | exact HB.out | apply below_alloc | apply pw_below_drewN | apply below_drew1) | exact HB.out)))); have n7_ := Aside0.mk (below_step (by repeat (first | (with_reducible first | exact HB.out | apply below_alloc | apply pw_below_drewN | apply below_drew1) | exact HB.out)) hb); clear HO_7; clear HO_8; clear HO699; clear HO709; clear HO713; clear HO717; clear HB; have HO_7 := n0_; have HO_8 := n1_; have HO699 := n2_; have HO709 := n3_; have HO713 := n4_; have HO717 := n5_; have HO720 := n6_; have HB := n7_; clear n0_ n1_ n2_ n3_ n4_ n5_ n6_ n7_; (try clear hb); (try clear hb2); (try clear hk); (try clear hi); (try clear ho0); obtain ⟨Ao79, co79, eo79⟩ := Kd.R_slice HO717.out; subst eo79; obtain ⟨Ao80, co80, eo80⟩ := Kd.R_slice HO720.out; subst eo80) | (go_at_call 21; (with_reducible refine (butteryref08_Same.calls kj16 _ _ t715 _ _ t718 false _ ?side1 ?side2 ?side3 ?side4 A60.out).mono ?_); (case side1 => repeat (first | exact (Kd.R_reads' HO717.out).2.2 | (with_reducible refine Kd.C_alloc ?_ _) | (with_reducible refine Kd.C_drewN ?_ _) | (with_reducible refine Kd.C_drew ?_))); (case side2 => exact (Kd.R_reads' HO717.out).2.1); (case side3 => repeat (first | exact (Kd.R_reads' HO720.out).2.2 | (with_reducible refine Kd.C_alloc ?_ _) | (with_reducible refine Kd.C_drewN ?_ _) | (with_reducible refine Kd.C_drew ?_))); (case side4 => exact (Kd.R_reads' HO720.out).2.1); rintro e w' ⟨rfl, ⟨nd, rfl⟩⟩))
                                go_meet
                                case rel => exact ⟨_, (true), (by first | rfl | (simp; done) | (simp [*]; done)), H', ⟨by have := HJ5.out; have := HJ16.out; first | omega | exact Nat.le_refl _⟩, ⟨by (with_reducible repeat (first | apply Kd.R_alloc | apply Kd.R_drewN | apply Kd.R_drew)); exact Kd.R_mono HO_7.out (fun _ hk => hk.1.1.1.1.1)⟩, ⟨by (with_reducible repeat (first | apply Kd.R_alloc | apply Kd.R_drewN | apply Kd.R_drew)); exact Kd.R_mono HO_8.out (fun _ hk => hk.1.1.1.1.1)⟩, ⟨by repeat (first | (with_reducible first | exact HB.out | apply below_alloc | apply pw_below_drewN | apply below_drew1) | exact HB.out)⟩⟩
                            · replace c57 := Bool.eq_false_iff.mpr c57
                              subst c57
                              have H1 : (butterylaw08_ZoneAll.j2 kj16 l0 l1 a2 y677 y683 true) = some r := by rw [if_neg (show ¬ (false = true) by decide)] at H; exact H
                              clear H
                              have H := H1
                              clear H1
                              have H' := Aside0.mk H
                              clear H
                              obtain ⟨Ao81, co81, eo81⟩ := Kd.R_slice HO699.out
                              subst eo81
                              obtain ⟨Ao82, co82, eo82⟩ := Kd.R_slice HO713.out
                              subst eo82
                              go_wp2_with (first | (go_at_call 21; (with_reducible refine (butteryref08_Same.calls kj16 _ _ t697 _ _ t710 false _ ?side1 ?side2 ?side3 ?side4 A56.out).mono ?_); (case side1 => repeat (first | exact (Kd.R_reads' HO699.out).2.2 | (with_reducible refine Kd.C_alloc ?_ _) | (with_reducible refine Kd.C_drewN ?_ _) | (with_reducible refine Kd.C_drew ?_))); (case side2 => exact (Kd.R_reads' HO699.out).2.1); (case side3 => repeat (first | exact (Kd.R_reads' HO713.out).2.2 | (with_reducible refine Kd.C_alloc ?_ _) | (with_reducible refine Kd.C_drewN ?_ _) | (with_reducible refine Kd.C_drew ?_))); (case side4 => exact (Kd.R_reads' HO713.out).2.1); rintro e w' ⟨rfl, ⟨nd, rfl⟩⟩))
                              go_meet
                              case rel => exact ⟨_, (true), (by first | rfl | (simp; done) | (simp [*]; done)), H', ⟨by have := HJ5.out; have := HJ16.out; first | omega | exact Nat.le_refl _⟩, ⟨by (with_reducible repeat (first | apply Kd.R_alloc | apply Kd.R_drewN | apply Kd.R_drew)); exact Kd.R_mono HO_7.out (fun _ hk => hk.1.1.1)⟩, ⟨by (with_reducible repeat (first | apply Kd.R_alloc | apply Kd.R_drewN | apply Kd.R_drew)); exact Kd.R_mono HO_8.out (fun _ hk => hk.1.1.1)⟩, ⟨by repeat (first | (with_reducible first | exact HB.out | apply below_alloc | apply pw_below_drewN | apply below_drew1) | exact HB.out)⟩⟩
                          · rw [if_neg c55] at H
                            have c55b0 : (t700 == t711) = false := beq_eq_false_iff_ne.mpr c55
                            have c55b1 : (t700 != t711) = true := bne_iff_ne.mpr c55
                            (first | rw [c55b0] | (simp only [i64_w, i32_w]; rw [c55b0]) | skip)
                            have H' := Aside0.mk H
                            clear H
                            go_wp2
                            go_meet
                            case rel => exact ⟨_, (true), (by first | rfl | (simp; done) | (simp [*]; done)), H', ⟨by have := HJ5.out; have := HJ16.out; first | omega | exact Nat.le_refl _⟩, ⟨by (with_reducible repeat (first | apply Kd.R_alloc | apply Kd.R_drewN | apply Kd.R_drew)); exact Kd.R_mono HO_7.out (fun _ hk => hk.1.1.1)⟩, ⟨by (with_reducible repeat (first | apply Kd.R_alloc | apply Kd.R_drewN | apply Kd.R_drew)); exact Kd.R_mono HO_8.out (fun _ hk => hk.1.1.1)⟩, ⟨by repeat (first | (with_reducible first | exact HB.out | apply below_alloc | apply pw_below_drewN | apply below_drew1) | exact HB.out)⟩⟩
                        case rest =>
                          clear HC46
                          try clear c1
                          try clear c2
                          try clear p2
                          try clear c3
                          try clear c4
                          try clear c5
                          try clear c6
                          try clear c9
                          try clear c11
                          try clear c12
                          try clear c13
                          try clear c14
                          try clear c23
                          try clear c27
                          try clear c27b0
                          try clear c27b1
                          try clear c29
                          try clear c30
                          try clear c31
                          try clear c31b0
                          try clear c31b1
                          try clear c40
                          try clear c41
                          try clear c42
                          try clear c43
                          try clear c44
                          try clear c55
                          try clear c55b0
                          try clear c55b1
                          try clear c57
                          try clear c61
                          try clear p2
                          obtain ⟨kq, x110_45, rfl, HA, HJ45, HO_7, HO_8, HB⟩ := hcut
                          cases kq with
                          | zero => exact absurd HA.out (by simp [butterylaw08_ZoneAll.j2])
                          | succ kj45 =>
                            have H := HA.out
                            clear HA
                            simp only [butterylaw08_ZoneAll.j2] at H
                            by_cases c83 : x110_45 = true
                            · subst c83
                              have H1 : (some false) = some r := by rw [if_pos rfl] at H; exact H
                              clear H
                              have H := H1
                              clear H1
                              obtain rfl := Option.some.inj H
                              go_wp2
                              go_ret
                              exact ⟨by first | rfl | (simp [errW_none, errW_some] <;> rfl) | (simp [*, errW_none, errW_some] <;> rfl), by repeat (first | (with_reducible first | exact HB.out | apply below_alloc | apply pw_below_drewN | apply below_drew1) | exact HB.out)⟩
                            · replace c83 := Bool.eq_false_iff.mpr c83
                              subst c83
                              have H1 : ((zone_Within.f y677 y683).bind fun t729 => ((butteryref08_Within.f kj45 l0 l1).bind fun t730 => (if (t729 == t730) = true then ((zone_Covers.f y677 a2).bind fun t731 => ((butteryref08_Covers.f kj45 l0 a2).bind fun t732 => (if (t731 == t732) = true then ((zone_Key.f kj45 a2).bind fun t733 => ((butteryref08_Key.f kj45 a2).bind fun t734 => (if (t733 == t734) = true then ((butteryref08_Same.f kj45 y677 l0).bind fun t735 => (if t735 = true then ((butteryref08_Same.f kj45 y683 l1).bind fun t736 => (some t736)) else (some false))) else (some false)))) else (some false)))) else (some false)))) = some r := by rw [if_neg (show ¬ (false = true) by decide)] at H; exact H
                              clear H
                              have H := H1
                              clear H1
                              replace H := Option.bind_eq_some_iff.mp H
                              obtain ⟨t729, A840, H⟩ := H
                              replace H : ((butteryref08_Within.f kj45 l0 l1).bind fun t730 => (if (t729 == t730) = true then ((zone_Covers.f y677 a2).bind fun t731 => ((butteryref08_Covers.f kj45 l0 a2).bind fun t732 => (if (t731 == t732) = true then ((zone_Key.f kj45 a2).bind fun t733 => ((butteryref08_Key.f kj45 a2).bind fun t734 => (if (t733 == t734) = true then ((butteryref08_Same.f kj45 y677 l0).bind fun t735 => (if t735 = true then ((butteryref08_Same.f kj45 y683 l1).bind fun t736 => (some t736)) else (some false))) else (some false)))) else (some false)))) else (some false))) = some r := H
                              have A84 := Aside0.mk A840
                              clear A840
                              replace H := Option.bind_eq_some_iff.mp H
                              obtain ⟨t730, A850, H⟩ := H
                              replace H : (if (t729 == t730) = true then ((zone_Covers.f y677 a2).bind fun t731 => ((butteryref08_Covers.f kj45 l0 a2).bind fun t732 => (if (t731 == t732) = true then ((zone_Key.f kj45 a2).bind fun t733 => ((butteryref08_Key.f kj45 a2).bind fun t734 => (if (t733 == t734) = true then ((butteryref08_Same.f kj45 y677 l0).bind fun t735 => (if t735 = true then ((butteryref08_Same.f kj45 y683 l1).bind fun t736 => (some t736)) else (some false))) else (some false)))) else (some false)))) else (some false)) = some r := H
                              have A85 := Aside0.mk A850
                              clear A850
                              by_cases c86 : (t729 == t730) = true
                              · rw [if_pos c86] at H
                                have c86b0 : (t729 == t730) = true := c86
                                (try (have c86b1 : decide (t729 = t730) = true := by simpa using c86))
                                (try (have c86b2 : (t729 == t730) = true := by simpa using c86))
                                clear c86
                                replace H := Option.bind_eq_some_iff.mp H
                                obtain ⟨t731, A870, H⟩ := H
                                replace H : ((butteryref08_Covers.f kj45 l0 a2).bind fun t732 => (if (t731 == t732) = true then ((zone_Key.f kj45 a2).bind fun t733 => ((butteryref08_Key.f kj45 a2).bind fun t734 => (if (t733 == t734) = true then ((butteryref08_Same.f kj45 y677 l0).bind fun t735 => (if t735 = true then ((butteryref08_Same.f kj45 y683 l1).bind fun t736 => (some t736)) else (some false))) else (some false)))) else (some false))) = some r := H
                                have A87 := Aside0.mk A870
                                clear A870
                                replace H := Option.bind_eq_some_iff.mp H
                                obtain ⟨t732, A880, H⟩ := H
                                replace H : (if (t731 == t732) = true then ((zone_Key.f kj45 a2).bind fun t733 => ((butteryref08_Key.f kj45 a2).bind fun t734 => (if (t733 == t734) = true then ((butteryref08_Same.f kj45 y677 l0).bind fun t735 => (if t735 = true then ((butteryref08_Same.f kj45 y683 l1).bind fun t736 => (some t736)) else (some false))) else (some false)))) else (some false)) = some r := H
                                have A88 := Aside0.mk A880
                                clear A880
                                by_cases c89 : (t731 == t732) = true
                                · rw [if_pos c89] at H
                                  have c89b0 : (t731 == t732) = true := c89
                                  (try (have c89b1 : decide (t731 = t732) = true := by simpa using c89))
                                  (try (have c89b2 : (t731 == t732) = true := by simpa using c89))
                                  clear c89
                                  replace H := Option.bind_eq_some_iff.mp H
                                  obtain ⟨t733, A900, H⟩ := H
                                  replace H : ((butteryref08_Key.f kj45 a2).bind fun t734 => (if (t733 == t734) = true then ((butteryref08_Same.f kj45 y677 l0).bind fun t735 => (if t735 = true then ((butteryref08_Same.f kj45 y683 l1).bind fun t736 => (some t736)) else (some false))) else (some false))) = some r := H
                                  have A90 := Aside0.mk A900
                                  clear A900
                                  replace H := Option.bind_eq_some_iff.mp H
                                  obtain ⟨t734, A910, H⟩ := H
                                  replace H : (if (t733 == t734) = true then ((butteryref08_Same.f kj45 y677 l0).bind fun t735 => (if t735 = true then ((butteryref08_Same.f kj45 y683 l1).bind fun t736 => (some t736)) else (some false))) else (some false)) = some r := H
                                  have A91 := Aside0.mk A910
                                  clear A910
                                  by_cases c92 : (t733 == t734) = true
                                  · rw [if_pos c92] at H
                                    have c92b0 : (t733 == t734) = true := c92
                                    (try (have c92b1 : decide (t733 = t734) = true := by simpa using c92))
                                    (try (have c92b2 : (t733 == t734) = true := by simpa using c92))
                                    clear c92
                                    replace H := Option.bind_eq_some_iff.mp H
                                    obtain ⟨t735, A930, H⟩ := H
                                    replace H : (if t735 = true then ((butteryref08_Same.f kj45 y683 l1).bind fun t736 => (some t736)) else (some false)) = some r := H
                                    have A93 := Aside0.mk A930
                                    clear A930
                                    by_cases c94 : t735 = true
                                    · subst c94
                                      have H1 : ((butteryref08_Same.f kj45 y683 l1).bind fun t736 => (some t736)) = some r := by rw [if_pos rfl] at H; exact H
                                      clear H
                                      have H := H1
                                      clear H1
                                      replace H := Option.bind_eq_some_iff.mp H
                                      obtain ⟨t736, A950, H⟩ := H
                                      replace H : (some t736) = some r := H
                                      have A95 := Aside0.mk A950
                                      clear A950
                                      obtain rfl := Option.some.inj H
                                      go_wp2_with (first | ((with_reducible refine gate_callee (f := 34) rfl ?_); refine goesL_ (some 113) rfl rfl Try.func34 (by kernel_rfl) rfl #[.slice Ao24 y677.length co24, .slice Ao47 y683.length co47] rfl (by (try simp only [List.map_toArray, List.map_cons, List.map_nil]); first | done | rfl | (simp only [List.length_drop, List.length_take]; rfl)) ?_; (with_reducible refine (zone_Within.calls _ _ y677 _ _ y683 t729 _ ?side1 ?side2 ?side3 ?side4 A84.out).mono ?_); (case side1 => repeat (first | exact (Kd.R_reads' HO_7.out).2.2 | (with_reducible refine Kd.C_alloc ?_ _) | (with_reducible refine Kd.C_drewN ?_ _) | (with_reducible refine Kd.C_drew ?_))); (case side2 => exact (Kd.R_reads' HO_7.out).2.1); (case side3 => repeat (first | exact (Kd.R_reads' HO_8.out).2.2 | (with_reducible refine Kd.C_alloc ?_ _) | (with_reducible refine Kd.C_drewN ?_ _) | (with_reducible refine Kd.C_drew ?_))); (case side4 => exact (Kd.R_reads' HO_8.out).2.1); rintro e w96 ⟨rfl, hb⟩; refine ⟨_, rfl, ?_⟩; have n0_ := Aside0.mk (Kd.R_below (by (with_reducible repeat (first | apply Kd.R_alloc | apply Kd.R_drewN | apply Kd.R_drew)); exact HO_7.out) hb); have n1_ := Aside0.mk (Kd.R_below (by (with_reducible repeat (first | apply Kd.R_alloc | apply Kd.R_drewN | apply Kd.R_drew)); exact HO_8.out) hb); have n2_ := Aside0.mk (below_step (by repeat (first | (with_reducible first | exact HB.out | apply below_alloc | apply pw_below_drewN | apply below_drew1) | exact HB.out)) hb); clear HO_7; clear HO_8; clear HB; have HO_7 := n0_; have HO_8 := n1_; have HB := n2_; clear n0_ n1_ n2_; (try clear hb); (try clear hb2); (try clear hk); (try clear hi)) | ((with_reducible refine gate_callee (f := 45) rfl ?_); refine goesL_ (some 116) rfl rfl Try.func45 (by kernel_rfl) rfl #[.slice A0 l0.length c0, .slice A1 l1.length c1] rfl (by (try simp only [List.map_toArray, List.map_cons, List.map_nil]); first | done | rfl | (simp only [List.length_drop, List.length_take]; rfl)) ?_; (with_reducible refine (butteryref08_Within.calls kj45 _ _ l0 _ _ l1 t730 _ ?side1 ?side2 ?side3 ?side4 A85.out).mono ?_); (case side1 => repeat (first | exact (Kd.C_below HR0.out HB.out) | (with_reducible refine Kd.C_alloc ?_ _) | (with_reducible refine Kd.C_drewN ?_ _) | (with_reducible refine Kd.C_drew ?_))); (case side2 => exact HC0.out); (case side3 => repeat (first | exact (Kd.C_below HR1.out HB.out) | (with_reducible refine Kd.C_alloc ?_ _) | (with_reducible refine Kd.C_drewN ?_ _) | (with_reducible refine Kd.C_drew ?_))); (case side4 => exact HC1.out); rintro e w97 ⟨rfl, hb⟩; refine ⟨_, rfl, ?_⟩; have n0_ := Aside0.mk (Kd.R_below (by (with_reducible repeat (first | apply Kd.R_alloc | apply Kd.R_drewN | apply Kd.R_drew)); exact HO_7.out) hb); have n1_ := Aside0.mk (Kd.R_below (by (with_reducible repeat (first | apply Kd.R_alloc | apply Kd.R_drewN | apply Kd.R_drew)); exact HO_8.out) hb); have n2_ := Aside0.mk (below_step (by repeat (first | (with_reducible first | exact HB.out | apply below_alloc | apply pw_below_drewN | apply below_drew1) | exact HB.out)) hb); clear HO_7; clear HO_8; clear HB; have HO_7 := n0_; have HO_8 := n1_; have HB := n2_; clear n0_ n1_ n2_; (try clear hb); (try clear hb2); (try clear hk); (try clear hi)) | (go_at_call 32; (with_reducible refine (zone_Covers.calls _ _ y677 a2 t731 _ ?side1 ?side2 A87.out).mono ?_); (case side1 => repeat (first | exact (Kd.R_reads' HO_7.out).2.2 | (with_reducible refine Kd.C_alloc ?_ _) | (with_reducible refine Kd.C_drewN ?_ _) | (with_reducible refine Kd.C_drew ?_))); (case side2 => exact (Kd.R_reads' HO_7.out).2.1); rintro e w98 ⟨rfl, hb⟩; have n0_ := Aside0.mk (Kd.R_below (by (with_reducible repeat (first | apply Kd.R_alloc | apply Kd.R_drewN | apply Kd.R_drew)); exact HO_7.out) hb); have n1_ := Aside0.mk (Kd.R_below (by (with_reducible repeat (first | apply Kd.R_alloc | apply Kd.R_drewN | apply Kd.R_drew)); exact HO_8.out) hb); have n2_ := Aside0.mk (below_step (by repeat (first | (with_reducible first | exact HB.out | apply below_alloc | apply pw_below_drewN | apply below_drew1) | exact HB.out)) hb); clear HO_7; clear HO_8; clear HB; have HO_7 := n0_; have HO_8 := n1_; have HB := n2_; clear n0_ n1_ n2_; (try clear hb); (try clear hb2); (try clear hk); (try clear hi)) | (go_at_call 46; (with_reducible refine (butteryref08_Covers.calls kj45 _ _ l0 a2 t732 _ ?side1 ?side2 A88.out).mono ?_); (case side1 => repeat (first | exact (Kd.C_below HR0.out HB.out) | (with_reducible refine Kd.C_alloc ?_ _) | (with_reducible refine Kd.C_drewN ?_ _) | (with_reducible refine Kd.C_drew ?_))); (case side2 => exact HC0.out); rintro e w' ⟨rfl, ⟨nd, rfl⟩⟩) | (go_at_call 47; (with_reducible refine (zone_Key.calls kj45 a2 t733 _ A90.out).mono ?_); rintro e w' ⟨rfl, ⟨nd, rfl⟩⟩) | (go_at_call 48; (with_reducible refine (butteryref08_Key.calls kj45 a2 t734 _ A91.out).mono ?_); rintro e w' ⟨rfl, ⟨nd, rfl⟩⟩) | (go_at_call 21; (with_reducible refine (butteryref08_Same.calls kj45 _ _ y677 _ _ l0 true _ ?side1 ?side2 ?side3 ?side4 A93.out).mono ?_); (case side1 => repeat (first | exact (Kd.R_reads' HO_7.out).2.2 | (with_reducible refine Kd.C_alloc ?_ _) | (with_reducible refine Kd.C_drewN ?_ _) | (with_reducible refine Kd.C_drew ?_))); (case side2 => exact (Kd.R_reads' HO_7.out).2.1); (case side3 => repeat (first | exact (Kd.C_below HR0.out (by repeat (first | (with_reducible first | exact HB.out | apply below_alloc | apply pw_below_drewN | apply below_drew1) | exact HB.out))) | (with_reducible refine Kd.C_alloc ?_ _) | (with_reducible refine Kd.C_drewN ?_ _) | (with_reducible refine Kd.C_drew ?_))); (case side4 => exact HC0.out); rintro e w' ⟨rfl, ⟨nd, rfl⟩⟩) | (go_at_call 21; (with_reducible refine (butteryref08_Same.calls kj45 _ _ y683 _ _ l1 t736 _ ?side1 ?side2 ?side3 ?side4 A95.out).mono ?_); (case side1 => repeat (first | exact (Kd.R_reads' HO_8.out).2.2 | (with_reducible refine Kd.C_alloc ?_ _) | (with_reducible refine Kd.C_drewN ?_ _) | (with_reducible refine Kd.C_drew ?_))); (case side2 => exact (Kd.R_reads' HO_8.out).2.1); (case side3 => repeat (first | exact (Kd.C_below HR1.out (by repeat (first | (with_reducible first | exact HB.out | apply below_alloc | apply pw_below_drewN | apply below_drew1) | exact HB.out))) | (with_reducible refine Kd.C_alloc ?_ _) | (with_reducible refine Kd.C_drewN ?_ _) | (with_reducible refine Kd.C_drew ?_))); (case side4 => exact HC1.out); rintro e w' ⟨rfl, ⟨nd, rfl⟩⟩))
                                      go_ret
                                      exact ⟨by first | rfl | (simp [errW_none, errW_some] <;> rfl) | (simp [*, errW_none, errW_some] <;> rfl), by repeat (first | (with_reducible first | exact HB.out | apply below_alloc | apply pw_below_drewN | apply below_drew1) | exact HB.out)⟩
                                    · replace c94 := Bool.eq_false_iff.mpr c94
                                      subst c94
                                      have H1 : (some false) = some r := by rw [if_neg (show ¬ (false = true) by decide)] at H; exact H
                                      clear H
                                      have H := H1
                                      clear H1
                                      obtain rfl := Option.some.inj H
                                      go_wp2_with (first | ((with_reducible refine gate_callee (f := 34) rfl ?_); refine goesL_ (some 113) rfl rfl Try.func34 (by kernel_rfl) rfl #[.slice Ao24 y677.length co24, .slice Ao47 y683.length co47] rfl (by (try simp only [List.map_toArray, List.map_cons, List.map_nil]); first | done | rfl | (simp only [List.length_drop, List.length_take]; rfl)) ?_; (with_reducible refine (zone_Within.calls _ _ y677 _ _ y683 t729 _ ?side1 ?side2 ?side3 ?side4 A84.out).mono ?_); (case side1 => repeat (first | exact (Kd.R_reads' HO_7.out).2.2 | (with_reducible refine Kd.C_alloc ?_ _) | (with_reducible refine Kd.C_drewN ?_ _) | (with_reducible refine Kd.C_drew ?_))); (case side2 => exact (Kd.R_reads' HO_7.out).2.1); (case side3 => repeat (first | exact (Kd.R_reads' HO_8.out).2.2 | (with_reducible refine Kd.C_alloc ?_ _) | (with_reducible refine Kd.C_drewN ?_ _) | (with_reducible refine Kd.C_drew ?_))); (case side4 => exact (Kd.R_reads' HO_8.out).2.1); rintro e w99 ⟨rfl, hb⟩; refine ⟨_, rfl, ?_⟩; have n0_ := Aside0.mk (Kd.R_below (by (with_reducible repeat (first | apply Kd.R_alloc | apply Kd.R_drewN | apply Kd.R_drew)); exact HO_7.out) hb); have n1_ := Aside0.mk (Kd.R_below (by (with_reducible repeat (first | apply Kd.R_alloc | apply Kd.R_drewN | apply Kd.R_drew)); exact HO_8.out) hb); have n2_ := Aside0.mk (below_step (by repeat (first | (with_reducible first | exact HB.out | apply below_alloc | apply pw_below_drewN | apply below_drew1) | exact HB.out)) hb); clear HO_7; clear HO_8; clear HB; have HO_7 := n0_; have HO_8 := n1_; have HB := n2_; clear n0_ n1_ n2_; (try clear hb); (try clear hb2); (try clear hk); (try clear hi)) | ((with_reducible refine gate_callee (f := 45) rfl ?_); refine goesL_ (some 116) rfl rfl Try.func45 (by kernel_rfl) rfl #[.slice A0 l0.length c0, .slice A1 l1.length c1] rfl (by (try simp only [List.map_toArray, List.map_cons, List.map_nil]); first | done | rfl | (simp only [List.length_drop, List.length_take]; rfl)) ?_; (with_reducible refine (butteryref08_Within.calls kj45 _ _ l0 _ _ l1 t730 _ ?side1 ?side2 ?side3 ?side4 A85.out).mono ?_); (case side1 => repeat (first | exact (Kd.C_below HR0.out HB.out) | (with_reducible refine Kd.C_alloc ?_ _) | (with_reducible refine Kd.C_drewN ?_ _) | (with_reducible refine Kd.C_drew ?_))); (case side2 => exact HC0.out); (case side3 => repeat (first | exact (Kd.C_below HR1.out HB.out) | (with_reducible refine Kd.C_alloc ?_ _) | (with_reducible refine Kd.C_drewN ?_ _) | (with_reducible refine Kd.C_drew ?_))); (case side4 => exact HC1.out); rintro e w100 ⟨rfl, hb⟩; refine ⟨_, rfl, ?_⟩; have n0_ := Aside0.mk (Kd.R_below (by (with_reducible repeat (first | apply Kd.R_alloc | apply Kd.R_drewN | apply Kd.R_drew)); exact HO_7.out) hb); have n1_ := Aside0.mk (Kd.R_below (by (with_reducible repeat (first | apply Kd.R_alloc | apply Kd.R_drewN | apply Kd.R_drew)); exact HO_8.out) hb); have n2_ := Aside0.mk (below_step (by repeat (first | (with_reducible first | exact HB.out | apply below_alloc | apply pw_below_drewN | apply below_drew1) | exact HB.out)) hb); clear HO_7; clear HO_8; clear HB; have HO_7 := n0_; have HO_8 := n1_; have HB := n2_; clear n0_ n1_ n2_; (try clear hb); (try clear hb2); (try clear hk); (try clear hi)) | (go_at_call 32; (with_reducible refine (zone_Covers.calls _ _ y677 a2 t731 _ ?side1 ?side2 A87.out).mono ?_); (case side1 => repeat (first | exact (Kd.R_reads' HO_7.out).2.2 | (with_reducible refine Kd.C_alloc ?_ _) | (with_reducible refine Kd.C_drewN ?_ _) | (with_reducible refine Kd.C_drew ?_))); (case side2 => exact (Kd.R_reads' HO_7.out).2.1); rintro e w101 ⟨rfl, hb⟩; have n0_ := Aside0.mk (Kd.R_below (by (with_reducible repeat (first | apply Kd.R_alloc | apply Kd.R_drewN | apply Kd.R_drew)); exact HO_7.out) hb); have n1_ := Aside0.mk (Kd.R_below (by (with_reducible repeat (first | apply Kd.R_alloc | apply Kd.R_drewN | apply Kd.R_drew)); exact HO_8.out) hb); have n2_ := Aside0.mk (below_step (by repeat (first | (with_reducible first | exact HB.out | apply below_alloc | apply pw_below_drewN | apply below_drew1) | exact HB.out)) hb); clear HO_7; clear HO_8; clear HB; have HO_7 := n0_; have HO_8 := n1_; have HB := n2_; clear n0_ n1_ n2_; (try clear hb); (try clear hb2); (try clear hk); (try clear hi)) | (go_at_call 46; (with_reducible refine (butteryref08_Covers.calls kj45 _ _ l0 a2 t732 _ ?side1 ?side2 A88.out).mono ?_); (case side1 => repeat (first | exact (Kd.C_below HR0.out HB.out) | (with_reducible refine Kd.C_alloc ?_ _) | (with_reducible refine Kd.C_drewN ?_ _) | (with_reducible refine Kd.C_drew ?_))); (case side2 => exact HC0.out); rintro e w' ⟨rfl, ⟨nd, rfl⟩⟩) | (go_at_call 47; (with_reducible refine (zone_Key.calls kj45 a2 t733 _ A90.out).mono ?_); rintro e w' ⟨rfl, ⟨nd, rfl⟩⟩) | (go_at_call 48; (with_reducible refine (butteryref08_Key.calls kj45 a2 t734 _ A91.out).mono ?_); rintro e w' ⟨rfl, ⟨nd, rfl⟩⟩) | (go_at_call 21; (with_reducible refine (butteryref08_Same.calls kj45 _ _ y677 _ _ l0 false _ ?side1 ?side2 ?side3 ?side4 A93.out).mono ?_); (case side1 => repeat (first | exact (Kd.R_reads' HO_7.out).2.2 | (with_reducible refine Kd.C_alloc ?_ _) | (with_reducible refine Kd.C_drewN ?_ _) | (with_reducible refine Kd.C_drew ?_))); (case side2 => exact (Kd.R_reads' HO_7.out).2.1); (case side3 => repeat (first | exact (Kd.C_below HR0.out (by repeat (first | (with_reducible first | exact HB.out | apply below_alloc | apply pw_below_drewN | apply below_drew1) | exact HB.out))) | (with_reducible refine Kd.C_alloc ?_ _) | (with_reducible refine Kd.C_drewN ?_ _) | (with_reducible refine Kd.C_drew ?_))); (case side4 => exact HC0.out); rintro e w' ⟨rfl, ⟨nd, rfl⟩⟩))
                                      go_ret
                                      exact ⟨by first | rfl | (simp [errW_none, errW_some] <;> rfl) | (simp [*, errW_none, errW_some] <;> rfl), by repeat (first | (with_reducible first | exact HB.out | apply below_alloc | apply pw_below_drewN | apply below_drew1) | exact HB.out)⟩
                                  · rw [if_neg c92] at H
                                    have c92b0 : (t733 == t734) = false := by simpa using c92
                                    (try (have c92b1 : decide (t733 = t734) = false := by simpa using c92))
                                    (try (have c92b2 : (t733 == t734) = false := by simpa using c92))
                                    (try (have c92b3 : ¬ (t733 = t734) := by simpa using c92))
                                    clear c92
                                    obtain rfl := Option.some.inj H
                                    go_wp2_with (first | ((with_reducible refine gate_callee (f := 34) rfl ?_); refine goesL_ (some 113) rfl rfl Try.func34 (by kernel_rfl) rfl #[.slice Ao24 y677.length co24, .slice Ao47 y683.length co47] rfl (by (try simp only [List.map_toArray, List.map_cons, List.map_nil]); first | done | rfl | (simp only [List.length_drop, List.length_take]; rfl)) ?_; (with_reducible refine (zone_Within.calls _ _ y677 _ _ y683 t729 _ ?side1 ?side2 ?side3 ?side4 A84.out).mono ?_); (case side1 => repeat (first | exact (Kd.R_reads' HO_7.out).2.2 | (with_reducible refine Kd.C_alloc ?_ _) | (with_reducible refine Kd.C_drewN ?_ _) | (with_reducible refine Kd.C_drew ?_))); (case side2 => exact (Kd.R_reads' HO_7.out).2.1); (case side3 => repeat (first | exact (Kd.R_reads' HO_8.out).2.2 | (with_reducible refine Kd.C_alloc ?_ _) | (with_reducible refine Kd.C_drewN ?_ _) | (with_reducible refine Kd.C_drew ?_))); (case side4 => exact (Kd.R_reads' HO_8.out).2.1); rintro e w102 ⟨rfl, hb⟩; refine ⟨_, rfl, ?_⟩; have n0_ := Aside0.mk (Kd.R_below (by (with_reducible repeat (first | apply Kd.R_alloc | apply Kd.R_drewN | apply Kd.R_drew)); exact HO_7.out) hb); have n1_ := Aside0.mk (Kd.R_below (by (with_reducible repeat (first | apply Kd.R_alloc | apply Kd.R_drewN | apply Kd.R_drew)); exact HO_8.out) hb); have n2_ := Aside0.mk (below_step (by repeat (first | (with_reducible first | exact HB.out | apply below_alloc | apply pw_below_drewN | apply below_drew1) | exact HB.out)) hb); clear HO_7; clear HO_8; clear HB; have HO_7 := n0_; have HO_8 := n1_; have HB := n2_; clear n0_ n1_ n2_; (try clear hb); (try clear hb2); (try clear hk); (try clear hi)) | ((with_reducible refine gate_callee (f := 45) rfl ?_); refine goesL_ (some 116) rfl rfl Try.func45 (by kernel_rfl) rfl #[.slice A0 l0.length c0, .slice A1 l1.length c1] rfl (by (try simp only [List.map_toArray, List.map_cons, List.map_nil]); first | done | rfl | (simp only [List.length_drop, List.length_take]; rfl)) ?_; (with_reducible refine (butteryref08_Within.calls kj45 _ _ l0 _ _ l1 t730 _ ?side1 ?side2 ?side3 ?side4 A85.out).mono ?_); (case side1 => repeat (first | exact (Kd.C_below HR0.out HB.out) | (with_reducible refine Kd.C_alloc ?_ _) | (with_reducible refine Kd.C_drewN ?_ _) | (with_reducible refine Kd.C_drew ?_))); (case side2 => exact HC0.out); (case side3 => repeat (first | exact (Kd.C_below HR1.out HB.out) | (with_reducible refine Kd.C_alloc ?_ _) | (with_reducible refine Kd.C_drewN ?_ _) | (with_reducible refine Kd.C_drew ?_))); (case side4 => exact HC1.out); rintro e w103 ⟨rfl, hb⟩; refine ⟨_, rfl, ?_⟩; have n0_ := Aside0.mk (Kd.R_below (by (with_reducible repeat (first | apply Kd.R_alloc | apply Kd.R_drewN | apply Kd.R_drew)); exact HO_7.out) hb); have n1_ := Aside0.mk (Kd.R_below (by (with_reducible repeat (first | apply Kd.R_alloc | apply Kd.R_drewN | apply Kd.R_drew)); exact HO_8.out) hb); have n2_ := Aside0.mk (below_step (by repeat (first | (with_reducible first | exact HB.out | apply below_alloc | apply pw_below_drewN | apply below_drew1) | exact HB.out)) hb); clear HO_7; clear HO_8; clear HB; have HO_7 := n0_; have HO_8 := n1_; have HB := n2_; clear n0_ n1_ n2_; (try clear hb); (try clear hb2); (try clear hk); (try clear hi)) | (go_at_call 32; (with_reducible refine (zone_Covers.calls _ _ y677 a2 t731 _ ?side1 ?side2 A87.out).mono ?_); (case side1 => repeat (first | exact (Kd.R_reads' HO_7.out).2.2 | (with_reducible refine Kd.C_alloc ?_ _) | (with_reducible refine Kd.C_drewN ?_ _) | (with_reducible refine Kd.C_drew ?_))); (case side2 => exact (Kd.R_reads' HO_7.out).2.1); rintro e w104 ⟨rfl, hb⟩; have n0_ := Aside0.mk (Kd.R_below (by (with_reducible repeat (first | apply Kd.R_alloc | apply Kd.R_drewN | apply Kd.R_drew)); exact HO_7.out) hb); have n1_ := Aside0.mk (Kd.R_below (by (with_reducible repeat (first | apply Kd.R_alloc | apply Kd.R_drewN | apply Kd.R_drew)); exact HO_8.out) hb); have n2_ := Aside0.mk (below_step (by repeat (first | (with_reducible first | exact HB.out | apply below_alloc | apply pw_below_drewN | apply below_drew1) | exact HB.out)) hb); clear HO_7; clear HO_8; clear HB; have HO_7 := n0_; have HO_8 := n1_; have HB := n2_; clear n0_ n1_ n2_; (try clear hb); (try clear hb2); (try clear hk); (try clear hi)) | (go_at_call 46; (with_reducible refine (butteryref08_Covers.calls kj45 _ _ l0 a2 t732 _ ?side1 ?side2 A88.out).mono ?_); (case side1 => repeat (first | exact (Kd.C_below HR0.out HB.out) | (with_reducible refine Kd.C_alloc ?_ _) | (with_reducible refine Kd.C_drewN ?_ _) | (with_reducible refine Kd.C_drew ?_))); (case side2 => exact HC0.out); rintro e w' ⟨rfl, ⟨nd, rfl⟩⟩) | (go_at_call 47; (with_reducible refine (zone_Key.calls kj45 a2 t733 _ A90.out).mono ?_); rintro e w' ⟨rfl, ⟨nd, rfl⟩⟩) | (go_at_call 48; (with_reducible refine (butteryref08_Key.calls kj45 a2 t734 _ A91.out).mono ?_); rintro e w' ⟨rfl, ⟨nd, rfl⟩⟩))
                                    go_ret
                                    exact ⟨by first | rfl | (simp [errW_none, errW_some] <;> rfl) | (simp [*, errW_none, errW_some] <;> rfl), by repeat (first | (with_reducible first | exact HB.out | apply below_alloc | apply pw_below_drewN | apply below_drew1) | exact HB.out)⟩
                                · rw [if_neg c89] at H
                                  have c89b0 : (t731 == t732) = false := by simpa using c89
                                  (try (have c89b1 : decide (t731 = t732) = false := by simpa using c89))
                                  (try (have c89b2 : (t731 == t732) = false := by simpa using c89))
                                  (try (have c89b3 : ¬ (t731 = t732) := by simpa using c89))
                                  clear c89
                                  obtain rfl := Option.some.inj H
                                  go_wp2_with (first | ((with_reducible refine gate_callee (f := 34) rfl ?_); refine goesL_ (some 113) rfl rfl Try.func34 (by kernel_rfl) rfl #[.slice Ao24 y677.length co24, .slice Ao47 y683.length co47] rfl (by (try simp only [List.map_toArray, List.map_cons, List.map_nil]); first | done | rfl | (simp only [List.length_drop, List.length_take]; rfl)) ?_; (with_reducible refine (zone_Within.calls _ _ y677 _ _ y683 t729 _ ?side1 ?side2 ?side3 ?side4 A84.out).mono ?_); (case side1 => repeat (first | exact (Kd.R_reads' HO_7.out).2.2 | (with_reducible refine Kd.C_alloc ?_ _) | (with_reducible refine Kd.C_drewN ?_ _) | (with_reducible refine Kd.C_drew ?_))); (case side2 => exact (Kd.R_reads' HO_7.out).2.1); (case side3 => repeat (first | exact (Kd.R_reads' HO_8.out).2.2 | (with_reducible refine Kd.C_alloc ?_ _) | (with_reducible refine Kd.C_drewN ?_ _) | (with_reducible refine Kd.C_drew ?_))); (case side4 => exact (Kd.R_reads' HO_8.out).2.1); rintro e w105 ⟨rfl, hb⟩; refine ⟨_, rfl, ?_⟩; have n0_ := Aside0.mk (Kd.R_below (by (with_reducible repeat (first | apply Kd.R_alloc | apply Kd.R_drewN | apply Kd.R_drew)); exact HO_7.out) hb); have n1_ := Aside0.mk (Kd.R_below (by (with_reducible repeat (first | apply Kd.R_alloc | apply Kd.R_drewN | apply Kd.R_drew)); exact HO_8.out) hb); have n2_ := Aside0.mk (below_step (by repeat (first | (with_reducible first | exact HB.out | apply below_alloc | apply pw_below_drewN | apply below_drew1) | exact HB.out)) hb); clear HO_7; clear HO_8; clear HB; have HO_7 := n0_; have HO_8 := n1_; have HB := n2_; clear n0_ n1_ n2_; (try clear hb); (try clear hb2); (try clear hk); (try clear hi)) | ((with_reducible refine gate_callee (f := 45) rfl ?_); refine goesL_ (some 116) rfl rfl Try.func45 (by kernel_rfl) rfl #[.slice A0 l0.length c0, .slice A1 l1.length c1] rfl (by (try simp only [List.map_toArray, List.map_cons, List.map_nil]); first | done | rfl | (simp only [List.length_drop, List.length_take]; rfl)) ?_; (with_reducible refine (butteryref08_Within.calls kj45 _ _ l0 _ _ l1 t730 _ ?side1 ?side2 ?side3 ?side4 A85.out).mono ?_); (case side1 => repeat (first | exact (Kd.C_below HR0.out HB.out) | (with_reducible refine Kd.C_alloc ?_ _) | (with_reducible refine Kd.C_drewN ?_ _) | (with_reducible refine Kd.C_drew ?_))); (case side2 => exact HC0.out); (case side3 => repeat (first | exact (Kd.C_below HR1.out HB.out) | (with_reducible refine Kd.C_alloc ?_ _) | (with_reducible refine Kd.C_drewN ?_ _) | (with_reducible refine Kd.C_drew ?_))); (case side4 => exact HC1.out); rintro e w106 ⟨rfl, hb⟩; refine ⟨_, rfl, ?_⟩; have n0_ := Aside0.mk (Kd.R_below (by (with_reducible repeat (first | apply Kd.R_alloc | apply Kd.R_drewN | apply Kd.R_drew)); exact HO_7.out) hb); have n1_ := Aside0.mk (Kd.R_below (by (with_reducible repeat (first | apply Kd.R_alloc | apply Kd.R_drewN | apply Kd.R_drew)); exact HO_8.out) hb); have n2_ := Aside0.mk (below_step (by repeat (first | (with_reducible first | exact HB.out | apply below_alloc | apply pw_below_drewN | apply below_drew1) | exact HB.out)) hb); clear HO_7; clear HO_8; clear HB; have HO_7 := n0_; have HO_8 := n1_; have HB := n2_; clear n0_ n1_ n2_; (try clear hb); (try clear hb2); (try clear hk); (try clear hi)) | (go_at_call 32; (with_reducible refine (zone_Covers.calls _ _ y677 a2 t731 _ ?side1 ?side2 A87.out).mono ?_); (case side1 => repeat (first | exact (Kd.R_reads' HO_7.out).2.2 | (with_reducible refine Kd.C_alloc ?_ _) | (with_reducible refine Kd.C_drewN ?_ _) | (with_reducible refine Kd.C_drew ?_))); (case side2 => exact (Kd.R_reads' HO_7.out).2.1); rintro e w107 ⟨rfl, hb⟩; have n0_ := Aside0.mk (Kd.R_below (by (with_reducible repeat (first | apply Kd.R_alloc | apply Kd.R_drewN | apply Kd.R_drew)); exact HO_7.out) hb); have n1_ := Aside0.mk (Kd.R_below (by (with_reducible repeat (first | apply Kd.R_alloc | apply Kd.R_drewN | apply Kd.R_drew)); exact HO_8.out) hb); have n2_ := Aside0.mk (below_step (by repeat (first | (with_reducible first | exact HB.out | apply below_alloc | apply pw_below_drewN | apply below_drew1) | exact HB.out)) hb); clear HO_7; clear HO_8; clear HB; have HO_7 := n0_; have HO_8 := n1_; have HB := n2_; clear n0_ n1_ n2_; (try clear hb); (try clear hb2); (try clear hk); (try clear hi)) | (go_at_call 46; (with_reducible refine (butteryref08_Covers.calls kj45 _ _ l0 a2 t732 _ ?side1 ?side2 A88.out).mono ?_); (case side1 => repeat (first | exact (Kd.C_below HR0.out HB.out) | (with_reducible refine Kd.C_alloc ?_ _) | (with_reducible refine Kd.C_drewN ?_ _) | (with_reducible refine Kd.C_drew ?_))); (case side2 => exact HC0.out); rintro e w' ⟨rfl, ⟨nd, rfl⟩⟩))
                                  go_ret
                                  exact ⟨by first | rfl | (simp [errW_none, errW_some] <;> rfl) | (simp [*, errW_none, errW_some] <;> rfl), by repeat (first | (with_reducible first | exact HB.out | apply below_alloc | apply pw_below_drewN | apply below_drew1) | exact HB.out)⟩
                              · rw [if_neg c86] at H
                                have c86b0 : (t729 == t730) = false := by simpa using c86
                                (try (have c86b1 : decide (t729 = t730) = false := by simpa using c86))
                                (try (have c86b2 : (t729 == t730) = false := by simpa using c86))
                                (try (have c86b3 : ¬ (t729 = t730) := by simpa using c86))
                                clear c86
                                obtain rfl := Option.some.inj H
                                go_wp2_with (first | ((with_reducible refine gate_callee (f := 34) rfl ?_); refine goesL_ (some 113) rfl rfl Try.func34 (by kernel_rfl) rfl #[.slice Ao24 y677.length co24, .slice Ao47 y683.length co47] rfl (by (try simp only [List.map_toArray, List.map_cons, List.map_nil]); first | done | rfl | (simp only [List.length_drop, List.length_take]; rfl)) ?_; (with_reducible refine (zone_Within.calls _ _ y677 _ _ y683 t729 _ ?side1 ?side2 ?side3 ?side4 A84.out).mono ?_); (case side1 => repeat (first | exact (Kd.R_reads' HO_7.out).2.2 | (with_reducible refine Kd.C_alloc ?_ _) | (with_reducible refine Kd.C_drewN ?_ _) | (with_reducible refine Kd.C_drew ?_))); (case side2 => exact (Kd.R_reads' HO_7.out).2.1); (case side3 => repeat (first | exact (Kd.R_reads' HO_8.out).2.2 | (with_reducible refine Kd.C_alloc ?_ _) | (with_reducible refine Kd.C_drewN ?_ _) | (with_reducible refine Kd.C_drew ?_))); (case side4 => exact (Kd.R_reads' HO_8.out).2.1); rintro e w108 ⟨rfl, hb⟩; refine ⟨_, rfl, ?_⟩; have n0_ := Aside0.mk (Kd.R_below (by (with_reducible repeat (first | apply Kd.R_alloc | apply Kd.R_drewN | apply Kd.R_drew)); exact HO_7.out) hb); have n1_ := Aside0.mk (Kd.R_below (by (with_reducible repeat (first | apply Kd.R_alloc | apply Kd.R_drewN | apply Kd.R_drew)); exact HO_8.out) hb); have n2_ := Aside0.mk (below_step (by repeat (first | (with_reducible first | exact HB.out | apply below_alloc | apply pw_below_drewN | apply below_drew1) | exact HB.out)) hb); clear HO_7; clear HO_8; clear HB; have HO_7 := n0_; have HO_8 := n1_; have HB := n2_; clear n0_ n1_ n2_; (try clear hb); (try clear hb2); (try clear hk); (try clear hi)) | ((with_reducible refine gate_callee (f := 45) rfl ?_); refine goesL_ (some 116) rfl rfl Try.func45 (by kernel_rfl) rfl #[.slice A0 l0.length c0, .slice A1 l1.length c1] rfl (by (try simp only [List.map_toArray, List.map_cons, List.map_nil]); first | done | rfl | (simp only [List.length_drop, List.length_take]; rfl)) ?_; (with_reducible refine (butteryref08_Within.calls kj45 _ _ l0 _ _ l1 t730 _ ?side1 ?side2 ?side3 ?side4 A85.out).mono ?_); (case side1 => repeat (first | exact (Kd.C_below HR0.out HB.out) | (with_reducible refine Kd.C_alloc ?_ _) | (with_reducible refine Kd.C_drewN ?_ _) | (with_reducible refine Kd.C_drew ?_))); (case side2 => exact HC0.out); (case side3 => repeat (first | exact (Kd.C_below HR1.out HB.out) | (with_reducible refine Kd.C_alloc ?_ _) | (with_reducible refine Kd.C_drewN ?_ _) | (with_reducible refine Kd.C_drew ?_))); (case side4 => exact HC1.out); rintro e w109 ⟨rfl, hb⟩; refine ⟨_, rfl, ?_⟩; have n0_ := Aside0.mk (Kd.R_below (by (with_reducible repeat (first | apply Kd.R_alloc | apply Kd.R_drewN | apply Kd.R_drew)); exact HO_7.out) hb); have n1_ := Aside0.mk (Kd.R_below (by (with_reducible repeat (first | apply Kd.R_alloc | apply Kd.R_drewN | apply Kd.R_drew)); exact HO_8.out) hb); have n2_ := Aside0.mk (below_step (by repeat (first | (with_reducible first | exact HB.out | apply below_alloc | apply pw_below_drewN | apply below_drew1) | exact HB.out)) hb); clear HO_7; clear HO_8; clear HB; have HO_7 := n0_; have HO_8 := n1_; have HB := n2_; clear n0_ n1_ n2_; (try clear hb); (try clear hb2); (try clear hk); (try clear hi)))
                                go_ret
                                exact ⟨by first | rfl | (simp [errW_none, errW_some] <;> rfl) | (simp [*, errW_none, errW_some] <;> rfl), by repeat (first | (with_reducible first | exact HB.out | apply below_alloc | apply pw_below_drewN | apply below_drew1) | exact HB.out)⟩
                      · rw [if_neg c44] at H
                        exact absurd H (by simp)
                    · rw [if_neg c43] at H
                      exact absurd H (by simp)
            · rw [if_neg c14] at H
              exact absurd H (by simp)
          · rw [if_neg c13] at H
            exact absurd H (by simp)
  · replace c5 := Bool.eq_false_iff.mpr c5
    subst c5
    have H1 : (some false) = some r := by rw [if_neg (show ¬ (false = true) by decide)] at H; exact H
    clear H
    have H := H1
    clear H1
    obtain rfl := Option.some.inj H
    go_enter Try.func12, Try.ntmps12
    go_wp2_with (first | ((with_reducible refine gate_callee (f := 30) rfl ?_); refine goesL_ (some 15) rfl rfl Try.func30 (by kernel_rfl) rfl #[] rfl (by (try simp only [List.map_toArray, List.map_cons, List.map_nil]); first | done | rfl | (simp only [List.length_drop, List.length_take]; rfl)) ?_; (with_reducible refine (butterylaw08_awake.calls k  false _ A4.out).mono ?_); rintro e w110 ⟨rfl, hb⟩; refine ⟨_, rfl, ?_⟩; have n0_ := Aside0.mk (below_step (by repeat (first | (with_reducible first | exact HB.out | apply below_alloc | apply pw_below_drewN | apply below_drew1) | exact HB.out)) hb); clear HB; have HB := n0_; clear n0_; (try clear hb); (try clear hb2); (try clear hk); (try clear hi)))
    go_ret
    exact ⟨by first | rfl | (simp [errW_none, errW_some] <;> rfl) | (simp [*, errW_none, errW_some] <;> rfl), by repeat (first | (with_reducible first | exact HB.out | apply below_alloc | apply pw_below_drewN | apply below_drew1) | exact HB.out)⟩

end Go.Proofs.Ytciiodbkhilkmaa.F
