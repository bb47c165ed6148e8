-- Written by wip/fx/fx.py (a program of this work, over the kit's print program) for Ytciiodbkhilkmaa; Lean checks it.
import Derived.Test.YtciiodbkhilkmaaF0
import Derived.Test.YtciiodbkhilkmaaF1
import Derived.Test.YtciiodbkhilkmaaF8
import Derived.Test.YtciiodbkhilkmaaF17
import Derived.Test.YtciiodbkhilkmaaF26
import Derived.Test.YtciiodbkhilkmaaGLess
import Derived.Test.YtciiodbkhilkmaaGNormB
namespace Go.Proofs.Ytciiodbkhilkmaa.F
open Go.RowKit Go.Proofs.YtciiodbkhilkmaaW.PrintWords Go.Proofs.YtciiodbkhilkmaaW.PrintLast Go.Proofs.YtciiodbkhilkmaaW.PrintMore
attribute [local go_sem] max2_int min2_int max_two min_two max_three min_three max_four min_four   -- for this text's walks alone
set_option linter.unusedVariables false
set_option linter.unusedSimpArgs false

attribute [local go_sem high] eqA24
/-! ### butterylaw09_ItemOrder: function 8 -/
mutual
def butterylaw09_ItemOrder.l0 : Nat → List (S26) → List (S26) → Int → Option (Bool)
  | 0, _, _, _ => none
  | k + 1, x0, x3, x4 => if x4 < (x3.length : Int) then (butterylaw09_ItemOrder.l1 k x0 x3 x4 0) else (butterylaw09_ItemOrder.l2 k x0 x3 ([] : List (S26)) (wrap64 ((x0.length : Int) - 1)))
def butterylaw09_ItemOrder.l1 : Nat → List (S26) → List (S26) → Int → Int → Option (Bool)
  | 0, _, _, _, _ => none
  | k + 1, x0, x3, x4, x5 => if x5 < x4 then (if 0 ≤ x4 then (if x4 < (x3.length : Int) then (if 0 ≤ x5 then (if x5 < (x3.length : Int) then (if (((rd_T26 x3 x4).f5.f0) == ((rd_T26 x3 x5).f5.f0) && (((rd_T26 x3 x4).f5.f1) == ((rd_T26 x3 x5).f5.f1) && (((rd_T26 x3 x4).f5.f2) == ((rd_T26 x3 x5).f5.f2)))) = true then (some false) else ((item_Less.f ((rd_T26 x3 x5).f0) ((rd_T26 x3 x5).f1) ((rd_T26 x3 x5).f2) ((rd_T26 x3 x5).f3) ((rd_T26 x3 x5).f4) ((rd_T26 x3 x5).f5.f0) ((rd_T26 x3 x5).f5.f1) ((rd_T26 x3 x5).f5.f2) ((rd_T26 x3 x4).f0) ((rd_T26 x3 x4).f1) ((rd_T26 x3 x4).f2) ((rd_T26 x3 x4).f3) ((rd_T26 x3 x4).f4) ((rd_T26 x3 x4).f5.f0) ((rd_T26 x3 x4).f5.f1) ((rd_T26 x3 x4).f5.f2)).bind fun t473 => (if t473 = true then (butterylaw09_ItemOrder.l1 k x0 x3 x4 (wrap64 (x5 + 1))) else (some false)))) else (none)) else (none)) else (none)) else (none)) else (butterylaw09_ItemOrder.l0 k x0 x3 (wrap64 (x4 + 1)))
def butterylaw09_ItemOrder.l2 : Nat → List (S26) → List (S26) → List (S26) → Int → Option (Bool)
  | 0, _, _, _, _ => none
  | k + 1, x0, x3, x6, x7 => if x7 ≥ 0 then (if 0 ≤ x7 then (if x7 < (x0.length : Int) then (if x6.length < 1599289640401 then (butterylaw09_ItemOrder.l2 k x0 x3 (x6 ++ [(⟨(rd_T26 x0 x7).f0, (rd_T26 x0 x7).f1, (rd_T26 x0 x7).f2, (rd_T26 x0 x7).f3, (rd_T26 x0 x7).f4, (⟨(rd_T26 x0 x7).f5.f0, (rd_T26 x0 x7).f5.f1, (rd_T26 x0 x7).f5.f2⟩ : S24)⟩ : S26)]) (wrap64 (x7 - 1))) else (none)) else (none)) else (none)) else ((item_Norm.f x3).bind fun t478 => ((butteryref09_Same.f k t478 x3).bind fun t481 => (if t481 = true then ((item_Norm.f x6).bind fun t482 => ((butteryref09_Same.f k t482 x3).bind fun t485 => (some t485))) else (some false))))
end
def butterylaw09_ItemOrder.f (k : Nat) (l0 : List (S26)) : Option (Bool) := (butterylaw09_awake.f k).bind fun t464 => (if t464 = true then ((butteryref09_Short.f k l0).bind fun t465 => (if t465 = true then ((item_Norm.f l0).bind fun t466 => (butterylaw09_ItemOrder.l0 k l0 t466 0)) else (some true))) else (some false))
theorem butterylaw09_ItemOrder.mono_l : ∀ k, (∀ y0 y1 y2, LeO (butterylaw09_ItemOrder.l0 k y0 y1 y2) (butterylaw09_ItemOrder.l0 (k + 1) y0 y1 y2)) ∧ (∀ y0 y1 y2 y3, LeO (butterylaw09_ItemOrder.l1 k y0 y1 y2 y3) (butterylaw09_ItemOrder.l1 (k + 1) y0 y1 y2 y3)) ∧ (∀ y0 y1 y2 y3, LeO (butterylaw09_ItemOrder.l2 k y0 y1 y2 y3) (butterylaw09_ItemOrder.l2 (k + 1) y0 y1 y2 y3))
  | 0 => ⟨fun _ _ _ r h => by simp [butterylaw09_ItemOrder.l0] at h, fun _ _ _ _ r h => by simp [butterylaw09_ItemOrder.l1] at h, fun _ _ _ _ r h => by simp [butterylaw09_ItemOrder.l2] at h⟩
  | k + 1 => by
    obtain ⟨ih0, ih1, ih2⟩ := butterylaw09_ItemOrder.mono_l k
    refine ⟨?_, ?_, ?_⟩
    · intro y0 y1 y2
      unfold butterylaw09_ItemOrder.l0
      repeat' first
      | (with_reducible exact ih0 _ _ _)
      | (with_reducible exact ih1 _ _ _ _)
      | (with_reducible exact ih2 _ _ _ _)
      | (with_reducible exact butterylaw09_awake.mono _)
      | (with_reducible exact butteryref09_Same.mono _ _ _)
      | (with_reducible exact butteryref09_Short.mono _ _)
      | (with_reducible exact LeO.refl _)
      | (with_reducible exact LeO.none _)
      | (with_reducible refine LeO.ite ?_ ?_)
      | (with_reducible refine LeO.bind ?_ (fun _ => ?_))
      | exact ih0 _ _ _
      | exact ih1 _ _ _ _
      | exact ih2 _ _ _ _
      | exact butterylaw09_awake.mono _
      | exact butteryref09_Same.mono _ _ _
      | exact butteryref09_Short.mono _ _
      | exact LeO.none _
      | refine LeO.ite ?_ ?_
      | refine LeO.bind ?_ (fun _ => ?_)
    · intro y0 y1 y2 y3
      unfold butterylaw09_ItemOrder.l1
      repeat' first
      | (with_reducible exact ih0 _ _ _)
      | (with_reducible exact ih1 _ _ _ _)
      | (with_reducible exact ih2 _ _ _ _)
      | (with_reducible exact butterylaw09_awake.mono _)
      | (with_reducible exact butteryref09_Same.mono _ _ _)
      | (with_reducible exact butteryref09_Short.mono _ _)
      | (with_reducible exact LeO.refl _)
      | (with_reducible exact LeO.none _)
      | (with_reducible refine LeO.ite ?_ ?_)
      | (with_reducible refine LeO.bind ?_ (fun _ => ?_))
      | exact ih0 _ _ _
      | exact ih1 _ _ _ _
      | exact ih2 _ _ _ _
      | exact butterylaw09_awake.mono _
      | exact butteryref09_Same.mono _ _ _
      | exact butteryref09_Short.mono _ _
      | exact LeO.none _
      | refine LeO.ite ?_ ?_
      | refine LeO.bind ?_ (fun _ => ?_)
    · intro y0 y1 y2 y3
      unfold butterylaw09_ItemOrder.l2
      repeat' first
      | (with_reducible exact ih0 _ _ _)
      | (with_reducible exact ih1 _ _ _ _)
      | (with_reducible exact ih2 _ _ _ _)
      | (with_reducible exact butterylaw09_awake.mono _)
      | (with_reducible exact butteryref09_Same.mono _ _ _)
      | (with_reducible exact butteryref09_Short.mono _ _)
      | (with_reducible exact LeO.refl _)
      | (with_reducible exact LeO.none _)
      | (with_reducible refine LeO.ite ?_ ?_)
      | (with_reducible refine LeO.bind ?_ (fun _ => ?_))
      | exact ih0 _ _ _
      | exact ih1 _ _ _ _
      | exact ih2 _ _ _ _
      | exact butterylaw09_awake.mono _
      | exact butteryref09_Same.mono _ _ _
      | exact butteryref09_Short.mono _ _
      | exact LeO.none _
      | refine LeO.ite ?_ ?_
      | refine LeO.bind ?_ (fun _ => ?_)
theorem butterylaw09_ItemOrder.mono : ∀ a0 k, LeO (butterylaw09_ItemOrder.f k a0) (butterylaw09_ItemOrder.f (k + 1) a0) := by
  intro a0 k
  obtain ⟨ih0, ih1, ih2⟩ := butterylaw09_ItemOrder.mono_l k
  unfold butterylaw09_ItemOrder.f
  repeat' first
      | (with_reducible exact ih0 _ _ _)
      | (with_reducible exact ih1 _ _ _ _)
      | (with_reducible exact ih2 _ _ _ _)
      | (with_reducible exact butterylaw09_awake.mono _)
      | (with_reducible exact butteryref09_Same.mono _ _ _)
      | (with_reducible exact butteryref09_Short.mono _ _)
      | (with_reducible exact LeO.refl _)
      | (with_reducible exact LeO.none _)
      | (with_reducible refine LeO.ite ?_ ?_)
      | (with_reducible refine LeO.bind ?_ (fun _ => ?_))
      | exact ih0 _ _ _
      | exact ih1 _ _ _ _
      | exact ih2 _ _ _ _
      | exact butterylaw09_awake.mono _
      | exact butteryref09_Same.mono _ _ _
      | exact butteryref09_Short.mono _ _
      | exact LeO.none _
      | refine LeO.ite ?_ ?_
      | refine LeO.bind ?_ (fun _ => ?_)
def butterylaw09_ItemOrder.T12 : Bool × List (List Nat × List Nat) := (true, [([], []), ([], []), ([0, 1], [0, 1]), ([2], [2]), ([3], [3]), ([], []), ([], []), ([5, 6], [5, 6]), ([7], [7]), ([8], [8]), ([4, 9], [4, 9]), ([10], [10]), ([11], [11]), ([11], [11]), ([12, 13, 11], [11, 12, 13]), ([14, 11], [11, 14]), ([11], [11]), ([11], [11]), ([16, 17, 11], [11, 16, 17]), ([18, 11], [11, 18]), ([15, 19, 11, 11], [11, 15, 19]), ([20, 11], [11, 20]), ([11, 21], [11, 21])])
def butterylaw09_ItemOrder.B12 : List Nat := [0, 0, 3, 7, 15, 0, 0, 96, 224, 480, 1023, 2047, 4095, 4095, 16383, 32767, 4095, 4095, 200703, 462847, 1048575, 2097151, 4194303]
theorem butterylaw09_ItemOrder.tab12 : rtab .any (opsOf Try.f8 12) = butterylaw09_ItemOrder.T12 := by kernel_rfl
theorem butterylaw09_ItemOrder.bits12 : waitsOk butterylaw09_ItemOrder.T12.2 butterylaw09_ItemOrder.B12 = true := by kernel_rfl
set_option maxHeartbeats 8000000 in
set_option maxRecDepth 100000 in
theorem butterylaw09_ItemOrder.calls (k : Nat) (A0 : Option Addr) (c0 : Nat) (l0 : List (S26)) (r : Bool) (w : World) (hr0 : Kd.C k26 w A0 l0.length l0) (hc0 : l0.length ≤ c0) (h : butterylaw09_ItemOrder.f k l0 = some r) :
    Calls Try.prog 8 #[.slice A0 l0.length c0] w fun e w' => e = .returned (.bool r) ∧ Below w.heap.size w w' := by
  have hu24 := Try.underlying24
  have hu26 := Try.underlying26
  have HR0 := Aside0.mk hr0
  have HC0 := Aside0.mk hc0
  clear hr0 hc0
  have HB := Aside0.mk (Below.refl w.heap.size w)
  have H : ((butterylaw09_awake.f k).bind fun t464 => (if t464 = true then ((butteryref09_Short.f k l0).bind fun t465 => (if t465 = true then ((item_Norm.f l0).bind fun t466 => (butterylaw09_ItemOrder.l0 k l0 t466 0)) else (some true))) else (some false))) = some r := h
  clear h
  replace H := Option.bind_eq_some_iff.mp H
  obtain ⟨t464, A20, H⟩ := H
  replace H : (if t464 = true then ((butteryref09_Short.f k l0).bind fun t465 => (if t465 = true then ((item_Norm.f l0).bind fun t466 => (butterylaw09_ItemOrder.l0 k l0 t466 0)) else (some true))) else (some false)) = some r := H
  have A2 := Aside0.mk A20
  clear A20
  by_cases c3 : t464 = true
  · subst c3
    have H1 : ((butteryref09_Short.f k l0).bind fun t465 => (if t465 = true then ((item_Norm.f l0).bind fun t466 => (butterylaw09_ItemOrder.l0 k l0 t466 0)) else (some true))) = some r := by rw [if_pos rfl] at H; exact H
    clear H
    have H := H1
    clear H1
    replace H := Option.bind_eq_some_iff.mp H
    obtain ⟨t465, A40, H⟩ := H
    replace H : (if t465 = true then ((item_Norm.f l0).bind fun t466 => (butterylaw09_ItemOrder.l0 k l0 t466 0)) else (some true)) = some r := H
    have A4 := Aside0.mk A40
    clear A40
    by_cases c5 : t465 = true
    · subst c5
      have H1 : ((item_Norm.f l0).bind fun t466 => (butterylaw09_ItemOrder.l0 k l0 t466 0)) = some r := by rw [if_pos rfl] at H; exact H
      clear H
      have H := H1
      clear H1
      replace H := Option.bind_eq_some_iff.mp H
      obtain ⟨t466, A60, H⟩ := H
      replace H : (butterylaw09_ItemOrder.l0 k l0 t466 0) = some r := H
      have A6 := Aside0.mk A60
      clear A60
      have H' := Aside0.mk H
      clear H
      go_enter Try.func8, Try.ntmps8
      go_wp2_with (first | ((with_reducible refine gate_callee (f := 35) rfl ?_); refine goesL_ (some 8) rfl rfl Try.func35 (by kernel_rfl) rfl #[] rfl (by (try simp only [List.map_toArray, List.map_cons, List.map_nil]); first | done | rfl | (simp only [List.length_drop, List.length_take]; rfl)) ?_; (with_reducible refine (butterylaw09_awake.calls k  true _ A2.out).mono ?_); rintro e w7 ⟨rfl, hb⟩; refine ⟨_, rfl, ?_⟩; have n0_ := Aside0.mk (below_step (by repeat (first | (with_reducible first | exact HB.out | apply below_alloc | apply pw_below_drewN | apply below_drew1) | exact HB.out)) hb); clear HB; have HB := n0_; clear n0_; (try clear hb); (try clear hb2); (try clear hk); (try clear hi)) | ((with_reducible refine gate_callee (f := 17) rfl ?_); refine goesL_ (some 11) rfl rfl Try.func17 (by kernel_rfl) rfl #[.slice A0 l0.length c0] rfl (by (try simp only [List.map_toArray, List.map_cons, List.map_nil]); first | done | rfl | (simp only [List.length_drop, List.length_take]; rfl)) ?_; (with_reducible refine (butteryref09_Short.calls k _ _ l0 true _ ?side1 ?side2 A4.out).mono ?_); (case side1 => repeat (first | exact (Kd.C_below HR0.out HB.out) | (with_reducible refine Kd.C_alloc ?_ _) | (with_reducible refine Kd.C_drewN ?_ _) | (with_reducible refine Kd.C_drew ?_))); (case side2 => exact HC0.out); rintro e w' ⟨rfl, ⟨nd, rfl⟩⟩; refine ⟨_, rfl, ?_⟩) | ((with_reducible refine gate_callee (f := 36) rfl ?_); refine goesL_ (some 14) rfl rfl Try.func36 (by kernel_rfl) rfl #[.slice A0 l0.length c0] rfl (by (try simp only [List.map_toArray, List.map_cons, List.map_nil]); first | done | rfl | (simp only [List.length_drop, List.length_take]; rfl)) ?_; (with_reducible refine (item_Norm.calls _ _ l0 t466 _ ?side1 ?side2 A6.out).mono ?_); (case side1 => repeat (first | exact (Kd.C_below HR0.out (by repeat (first | (with_reducible first | exact HB.out | apply below_alloc | apply pw_below_drewN | apply below_drew1) | exact HB.out))) | (with_reducible refine Kd.C_alloc ?_ _) | (with_reducible refine Kd.C_drewN ?_ _) | (with_reducible refine Kd.C_drew ?_))); (case side2 => exact HC0.out); rintro e w8 ⟨v467, rfl, ho0, hb⟩; refine ⟨_, rfl, ?_⟩; have n0_ := Aside0.mk (Kd.R_lower ho0 (below_size (by repeat (first | (with_reducible first | exact HB.out | apply below_alloc | apply pw_below_drewN | apply below_drew1) | exact HB.out)))); have n1_ := Aside0.mk (below_step (by repeat (first | (with_reducible first | exact HB.out | apply below_alloc | apply pw_below_drewN | apply below_drew1) | exact HB.out)) hb); clear HB; have HO468 := n0_; have HB := n1_; clear n0_ n1_; (try clear hb); (try clear hb2); (try clear hk); (try clear hi); (try clear ho0)))
      go_loopg [4] k (fun kq v4 w' => ∃ (x4_1 : Int), v4 = .int .i64 x4_1 ∧ Aside0 (butterylaw09_ItemOrder.l0 kq l0 t466 x4_1 = some r) ∧ Aside0 (kq ≤ k) ∧ Aside0 (Kd.R k26 26 w' w.heap.size (fun _ => True) v467 t466) ∧ Aside0 (Below w.heap.size w w'))
      case atStart => exact ⟨(0), (by first | rfl | (simp; done) | (simp [*]; done)), H', ⟨Nat.le_refl _⟩, ⟨by (with_reducible repeat (first | apply Kd.R_alloc | apply Kd.R_drewN | apply Kd.R_drew)); exact HO468.out⟩, ⟨by repeat (first | (with_reducible first | exact HB.out | apply below_alloc | apply pw_below_drewN | apply below_drew1) | exact HB.out)⟩⟩
      case round =>
        clear H'
        try clear c1
        try clear p2
        try clear c3
        try clear c5
        try clear c8
        obtain ⟨x4_1, rfl, HA, HK1, HO_3, HB⟩ := hrel
        cases gk with
        | zero => exact absurd HA.out (by simp [butterylaw09_ItemOrder.l0])
        | succ k1 =>
          have H := HA.out
          clear HA
          simp only [butterylaw09_ItemOrder.l0] at H
          by_cases c9 : x4_1 < (t466.length : Int)
          · rw [if_pos c9] at H
            have c9b0 : decide (x4_1 < (t466.length : Int)) = true := decide_eq_true c9
            clear c9
            have H' := Aside0.mk H
            clear H
            obtain ⟨Ao10, co10, eo10⟩ := Kd.R_slice HO_3.out
            subst eo10
            go_wp2
            go_loopg [5] k1 (fun kq v5 w' => ∃ (x5_2 : Int), v5 = .int .i64 x5_2 ∧ Aside0 (butterylaw09_ItemOrder.l1 kq l0 t466 x4_1 x5_2 = some r) ∧ Aside0 (kq ≤ k1) ∧ Aside0 (Kd.R k26 26 w' w.heap.size (fun _ => True) (.slice Ao10 t466.length co10) t466) ∧ Aside0 (Below w.heap.size w w'))
            case atStart => exact ⟨(0), (by first | rfl | (simp; done) | (simp [*]; done)), H', ⟨Nat.le_refl _⟩, ⟨by (with_reducible repeat (first | apply Kd.R_alloc | apply Kd.R_drewN | apply Kd.R_drew)); exact HO_3.out⟩, ⟨by repeat (first | (with_reducible first | exact HB.out | apply below_alloc | apply pw_below_drewN | apply below_drew1) | exact HB.out)⟩⟩
            case round =>
              clear H'
              try clear c1
              try clear p2
              try clear c3
              try clear c5
              try clear c8
              try clear c9
              try clear c9b0
              try clear p2
              obtain ⟨x5_2, rfl, HA, HK2, HO_3, HB⟩ := hrel
              cases gk with
              | zero => exact absurd HA.out (by simp [butterylaw09_ItemOrder.l1])
              | succ k2 =>
                have H := HA.out
                clear HA
                simp only [butterylaw09_ItemOrder.l1] at H
                by_cases c11 : x5_2 < x4_1
                · rw [if_pos c11] at H
                  have c11b0 : decide (x5_2 < x4_1) = true := decide_eq_true c11
                  clear c11
                  by_cases c12 : 0 ≤ x4_1
                  · rw [if_pos c12] at H
                    have c12b0 : decide (0 ≤ x4_1) = true := decide_eq_true c12
                    clear c12
                    by_cases c13 : x4_1 < (t466.length : Int)
                    · rw [if_pos c13] at H
                      have c13b0 : decide (x4_1 < (t466.length : Int)) = true := decide_eq_true c13
                      clear c13
                      by_cases c14 : 0 ≤ x5_2
                      · rw [if_pos c14] at H
                        have c14b0 : decide (0 ≤ x5_2) = true := decide_eq_true c14
                        clear c14
                        by_cases c15 : x5_2 < (t466.length : Int)
                        · rw [if_pos c15] at H
                          have c15b0 : decide (x5_2 < (t466.length : Int)) = true := decide_eq_true c15
                          clear c15
                          by_cases c16 : (((rd_T26 t466 x4_1).f5.f0) == ((rd_T26 t466 x5_2).f5.f0) && (((rd_T26 t466 x4_1).f5.f1) == ((rd_T26 t466 x5_2).f5.f1) && (((rd_T26 t466 x4_1).f5.f2) == ((rd_T26 t466 x5_2).f5.f2)))) = true
                          · rw [if_pos c16] at H
                            have c16b0 : (((rd_T26 t466 x4_1).f5.f0) == ((rd_T26 t466 x5_2).f5.f0) && (((rd_T26 t466 x4_1).f5.f1) == ((rd_T26 t466 x5_2).f5.f1) && (((rd_T26 t466 x4_1).f5.f2) == ((rd_T26 t466 x5_2).f5.f2)))) = true := c16
                            (try (have c16b1 : decide (((rd_T26 t466 x4_1).f5.f0) = ((rd_T26 t466 x5_2).f5.f0) && (((rd_T26 t466 x4_1).f5.f1) == ((rd_T26 t466 x5_2).f5.f1) && (((rd_T26 t466 x4_1).f5.f2) == ((rd_T26 t466 x5_2).f5.f2)))) = true := by simpa using c16))
                            (try (have c16b2 : (((rd_T26 t466 x4_1).f5.f0) == ((rd_T26 t466 x5_2).f5.f0) && (((rd_T26 t466 x4_1).f5.f1) == ((rd_T26 t466 x5_2).f5.f1) && (((rd_T26 t466 x4_1).f5.f2) == ((rd_T26 t466 x5_2).f5.f2)))) = true := by simpa using c16))
                            clear c16
                            obtain rfl := Option.some.inj H
                            try go_wp2
                            have n0_ := Aside0.mk (Kd.R_drew HO_3.out)
                            have n1_ := Aside0.mk (below_drew1 HB.out)
                            clear HO_3
                            clear HB
                            have HO_3 := n0_
                            have HB := n1_
                            clear n0_ n1_
                            have p469 : 0 ≤ (x4_1 : Int) := of_decide_eq_true (by first | (with_reducible assumption) | assumption)
                            have q469 : x4_1 < (t466.length : Int) := of_decide_eq_true (by first | (with_reducible assumption) | assumption)
                            obtain ⟨ad469, e469, hx469_0, hx469_1, hx469_2, hx469_3, hx469_4, hx469_5, hx469_6, hx469_7⟩ := at_T26 (Kd.R_reads' HO_3.out).2.2 x4_1 p469 q469
                            cases e469
                            replace p469 := eq_true p469
                            replace q469 := eq_true q469
                            have p470 : 0 ≤ (x5_2 : Int) := of_decide_eq_true (by first | (with_reducible assumption) | assumption)
                            have q470 : x5_2 < (t466.length : Int) := of_decide_eq_true (by first | (with_reducible assumption) | assumption)
                            obtain ⟨ad470, e470, hx470_0, hx470_1, hx470_2, hx470_3, hx470_4, hx470_5, hx470_6, hx470_7⟩ := at_T26 (Kd.R_reads' HO_3.out).2.2 x5_2 p470 q470
                            obtain rfl : ad469 = ad470 := (by injection e470)
                            replace p470 := eq_true p470
                            replace q470 := eq_true q470
                            refine start_ (n := 23) (S := fun w' => w'.cell? (ad469.add ((x4_1).toNat * 8)) = some (.string ((rd_T26 t466 x4_1).f0)) ∧ w'.cell? ⟨(ad469.add ((x4_1).toNat * 8)).block, (ad469.add ((x4_1).toNat * 8)).off + 1, none⟩ = some (.string ((rd_T26 t466 x4_1).f1)) ∧ w'.cell? ⟨(ad469.add ((x4_1).toNat * 8)).block, (ad469.add ((x4_1).toNat * 8)).off + 2, none⟩ = some (.int .i64 ((rd_T26 t466 x4_1).f2)) ∧ w'.cell? ⟨(ad469.add ((x4_1).toNat * 8)).block, (ad469.add ((x4_1).toNat * 8)).off + 3, none⟩ = some (.string ((rd_T26 t466 x4_1).f3)) ∧ w'.cell? ⟨(ad469.add ((x4_1).toNat * 8)).block, (ad469.add ((x4_1).toNat * 8)).off + 4, none⟩ = some (.int .i64 ((rd_T26 t466 x4_1).f4)) ∧ w'.cell? ⟨(ad469.add ((x4_1).toNat * 8)).block, (ad469.add ((x4_1).toNat * 8)).off + 5, none⟩ = some (.int .i64 ((rd_T26 t466 x4_1).f5.f0)) ∧ w'.cell? ⟨(ad469.add ((x4_1).toNat * 8)).block, (ad469.add ((x4_1).toNat * 8)).off + 6, none⟩ = some (.int .i64 ((rd_T26 t466 x4_1).f5.f1)) ∧ w'.cell? ⟨(ad469.add ((x4_1).toNat * 8)).block, (ad469.add ((x4_1).toNat * 8)).off + 7, none⟩ = some (.int .i64 ((rd_T26 t466 x4_1).f5.f2)) ∧ w'.cell? (ad469.add ((x5_2).toNat * 8)) = some (.string ((rd_T26 t466 x5_2).f0)) ∧ w'.cell? ⟨(ad469.add ((x5_2).toNat * 8)).block, (ad469.add ((x5_2).toNat * 8)).off + 1, none⟩ = some (.string ((rd_T26 t466 x5_2).f1)) ∧ w'.cell? ⟨(ad469.add ((x5_2).toNat * 8)).block, (ad469.add ((x5_2).toNat * 8)).off + 2, none⟩ = some (.int .i64 ((rd_T26 t466 x5_2).f2)) ∧ w'.cell? ⟨(ad469.add ((x5_2).toNat * 8)).block, (ad469.add ((x5_2).toNat * 8)).off + 3, none⟩ = some (.string ((rd_T26 t466 x5_2).f3)) ∧ w'.cell? ⟨(ad469.add ((x5_2).toNat * 8)).block, (ad469.add ((x5_2).toNat * 8)).off + 4, none⟩ = some (.int .i64 ((rd_T26 t466 x5_2).f4)) ∧ w'.cell? ⟨(ad469.add ((x5_2).toNat * 8)).block, (ad469.add ((x5_2).toNat * 8)).off + 5, none⟩ = some (.int .i64 ((rd_T26 t466 x5_2).f5.f0)) ∧ w'.cell? ⟨(ad469.add ((x5_2).toNat * 8)).block, (ad469.add ((x5_2).toNat * 8)).off + 6, none⟩ = some (.int .i64 ((rd_T26 t466 x5_2).f5.f1)) ∧ w'.cell? ⟨(ad469.add ((x5_2).toNat * 8)).block, (ad469.add ((x5_2).toNat * 8)).off + 7, none⟩ = some (.int .i64 ((rd_T26 t466 x5_2).f5.f2))) (ds := []) #[false, false, false, false, false, false, false, false, false, false, false, false, false, false, false, false, false, false, false, false, false, false, false] (by kernel_rfl) rfl rfl ⟨hx469_0, hx469_1, hx469_2, hx469_3, hx469_4, hx469_5, hx469_6, hx469_7, hx470_0, hx470_1, hx470_2, hx470_3, hx470_4, hx470_5, hx470_6, hx470_7⟩ (fun hHeld => ?_); refine with_tabW butterylaw09_ItemOrder.tab12 butterylaw09_ItemOrder.bits12 (fun HT_ HW_ => ?_)
                            generalize wr.drew = w17 at HO_3 HB hx469_0 hx469_1 hx469_2 hx469_3 hx469_4 hx469_5 hx469_6 hx469_7 hx470_0 hx470_1 hx470_2 hx470_3 hx470_4 hx470_5 hx470_6 hx470_7 hHeld ⊢
                            refine pure_ (i := 0) (N := some 26) (v := ?_) (a' := ?_) #[true, false, false, false, false, false, false, false, false, false, false, false, false, false, false, false, false, false, false, false, false, false, false] rfl rfl (any_of HT_.out (by kernel_rfl)) (fun _ _ _ h => h) (Or.inl ⟨by rfl, ?_⟩) ?_ ?_
                            rotate_left
                            · intro w'
                              go_simp
                              with_reducible rfl
                            rotate_left
                            · simp only [Act.put, List.setIfInBounds_toArray, List.set_cons_zero, List.set_cons_succ, i64_w, i32_w]
                              rfl
                            refine pure_ (i := 1) (N := some 27) (v := ?_) (a' := ?_) #[true, true, false, false, false, false, false, false, false, false, false, false, false, false, false, false, false, false, false, false, false, false, false] rfl rfl (any_of HT_.out (by kernel_rfl)) (fun _ _ _ h => h) (Or.inl ⟨by rfl, ?_⟩) ?_ ?_
                            rotate_left
                            · intro w'
                              go_simp
                              with_reducible rfl
                            rotate_left
                            · simp only [Act.put, List.setIfInBounds_toArray, List.set_cons_zero, List.set_cons_succ, i64_w, i32_w]
                              rfl
                            refine pure_ (i := 2) (N := some 28) (v := ?_) (a' := ?_) #[true, true, true, false, false, false, false, false, false, false, false, false, false, false, false, false, false, false, false, false, false, false, false] rfl rfl (any_of HT_.out (by kernel_rfl)) (fun _ _ _ h => h) (Or.inl ⟨by rfl, ?_⟩) ?_ ?_
                            rotate_left
                            · intro w'
                              go_simp
                              with_reducible rfl
                            rotate_left
                            · simp only [Act.put, List.setIfInBounds_toArray, List.set_cons_zero, List.set_cons_succ, i64_w, i32_w]
                              rfl
                            refine pure_ (i := 3) (N := some 29) (v := ?_) (a' := ?_) #[true, true, true, true, false, false, false, false, false, false, false, false, false, false, false, false, false, false, false, false, false, false, false] rfl rfl (any_of HT_.out (by kernel_rfl)) (fun _ _ _ h => h) (Or.inl ⟨by rfl, ?_⟩) ?_ ?_
                            rotate_left
                            · intro w'
                              go_simp
                              with_reducible rfl
                            rotate_left
                            · simp only [Act.put, List.setIfInBounds_toArray, List.set_cons_zero, List.set_cons_succ, i64_w, i32_w]
                              rfl
                            refine pure_ (i := 5) (N := some 31) (v := ?_) (a' := ?_) #[true, true, true, true, false, true, false, false, false, false, false, false, false, false, false, false, false, false, false, false, false, false, false] rfl rfl (any_of HT_.out (by kernel_rfl)) (fun _ _ _ h => h) (Or.inl ⟨by rfl, ?_⟩) ?_ ?_
                            rotate_left
                            · intro w'
                              go_simp
                              with_reducible rfl
                            rotate_left
                            · simp only [Act.put, List.setIfInBounds_toArray, List.set_cons_zero, List.set_cons_succ, i64_w, i32_w]
                              rfl
                            refine pure_ (i := 6) (N := some 32) (v := ?_) (a' := ?_) #[true, true, true, true, false, true, true, false, false, false, false, false, false, false, false, false, false, false, false, false, false, false, false] rfl rfl (any_of HT_.out (by kernel_rfl)) (fun _ _ _ h => h) (Or.inl ⟨by rfl, ?_⟩) ?_ ?_
                            rotate_left
                            · intro w'
                              go_simp
                              with_reducible rfl
                            rotate_left
                            · simp only [Act.put, List.setIfInBounds_toArray, List.set_cons_zero, List.set_cons_succ, i64_w, i32_w]
                              rfl
                            refine pure_ (i := 7) (N := some 33) (v := ?_) (a' := ?_) #[true, true, true, true, false, true, true, true, false, false, false, false, false, false, false, false, false, false, false, false, false, false, false] rfl rfl (any_of HT_.out (by kernel_rfl)) (fun _ _ _ h => h) (Or.inl ⟨by rfl, ?_⟩) ?_ ?_
                            rotate_left
                            · intro w'
                              go_simp
                              with_reducible rfl
                            rotate_left
                            · simp only [Act.put, List.setIfInBounds_toArray, List.set_cons_zero, List.set_cons_succ, i64_w, i32_w]
                              rfl
                            refine pure_ (i := 8) (N := some 34) (v := ?_) (a' := ?_) #[true, true, true, true, false, true, true, true, true, false, false, false, false, false, false, false, false, false, false, false, false, false, false] rfl rfl (any_of HT_.out (by kernel_rfl)) (fun _ _ _ h => h) (Or.inl ⟨by rfl, ?_⟩) ?_ ?_
                            rotate_left
                            · intro w'
                              go_simp
                              with_reducible rfl
                            rotate_left
                            · simp only [Act.put, List.setIfInBounds_toArray, List.set_cons_zero, List.set_cons_succ, i64_w, i32_w]
                              rfl
                            refine take_ (i := 4) (N := some 30) (v := ?_) (a' := ?_) #[true, true, true, true, true, true, true, true, true, false, false, false, false, false, false, false, false, false, false, false, false, false, false] rfl rfl (take_ofW HT_.out HW_.out (by kernel_rfl)) (fun _ _ _ h => h) (Or.inl ⟨by rfl, ?_⟩) hHeld ?_ ?_
                            rotate_left
                            · rintro w' ⟨s0, s1, s2, s3, s4, s5, s6, s7, s8, s9, s10, s11, s12, s13, s14, s15⟩
                              go_simp
                              with_reducible rfl
                            rotate_left
                            · simp only [Act.put, List.setIfInBounds_toArray, List.set_cons_zero, List.set_cons_succ, i64_w, i32_w]
                              rfl
                            refine take_ (i := 9) (N := some 35) (v := ?_) (a' := ?_) #[true, true, true, true, true, true, true, true, true, true, false, false, false, false, false, false, false, false, false, false, false, false, false] rfl rfl (take_ofW HT_.out HW_.out (by kernel_rfl)) (fun _ _ _ h => h) (Or.inl ⟨by rfl, ?_⟩) hHeld ?_ ?_
                            rotate_left
                            · rintro w' ⟨s0, s1, s2, s3, s4, s5, s6, s7, s8, s9, s10, s11, s12, s13, s14, s15⟩
                              go_simp
                              with_reducible rfl
                            rotate_left
                            · simp only [Act.put, List.setIfInBounds_toArray, List.set_cons_zero, List.set_cons_succ, i64_w, i32_w]
                              rfl
                            refine pure_ (i := 10) (N := some 36) (v := ?_) (a' := ?_) #[true, true, true, true, true, true, true, true, true, true, true, false, false, false, false, false, false, false, false, false, false, false, false] rfl rfl (any_of HT_.out (by kernel_rfl)) (fun _ _ _ h => h) (Or.inl ⟨by rfl, ?_⟩) ?_ ?_
                            rotate_left
                            · intro w'
                              go_simp
                              with_reducible rfl
                            rotate_left
                            · simp only [Act.put, List.setIfInBounds_toArray, List.set_cons_zero, List.set_cons_succ, i64_w, i32_w]
                              rfl
                            refine pure_ (i := 11) (N := some 37) (v := ?_) (a' := ?_) #[true, true, true, true, true, true, true, true, true, true, true, true, false, false, false, false, false, false, false, false, false, false, false] rfl rfl (any_of HT_.out (by kernel_rfl)) (fun _ _ _ h => h) (Or.inl ⟨by rfl, ?_⟩) ?_ ?_
                            rotate_left
                            · intro w'
                              go_simp
                              with_reducible rfl
                            rotate_left
                            · simp only [Act.put, List.setIfInBounds_toArray, List.set_cons_zero, List.set_cons_succ, i64_w, i32_w]
                              rfl
                            refine pure_ (i := 12) (N := some 38) (v := undef) (a' := ?_) #[true, true, true, true, true, true, true, true, true, true, true, true, true, false, false, false, false, false, false, false, false, false, false] rfl rfl (any_of HT_.out (by kernel_rfl)) (fun _ _ _ h => h) (Or.inr ⟨by rfl, rfl⟩) ?_ ?_
                            rotate_left
                            · simp only [Act.put, List.setIfInBounds_toArray, List.set_cons_zero, List.set_cons_succ, i64_w, i32_w]
                              rfl
                            refine pure_ (i := 13) (N := some 39) (v := undef) (a' := ?_) #[true, true, true, true, true, true, true, true, true, true, true, true, true, true, false, false, false, false, false, false, false, false, false] rfl rfl (any_of HT_.out (by kernel_rfl)) (fun _ _ _ h => h) (Or.inr ⟨by rfl, rfl⟩) ?_ ?_
                            rotate_left
                            · simp only [Act.put, List.setIfInBounds_toArray, List.set_cons_zero, List.set_cons_succ, i64_w, i32_w]
                              rfl
                            refine pure_ (i := 14) (N := some 40) (v := undef) (a' := ?_) #[true, true, true, true, true, true, true, true, true, true, true, true, true, true, true, false, false, false, false, false, false, false, false] rfl rfl (any_of HT_.out (by kernel_rfl)) (fun _ _ _ h => h) (Or.inr ⟨by rfl, rfl⟩) ?_ ?_
                            rotate_left
                            · simp only [Act.put, List.setIfInBounds_toArray, List.set_cons_zero, List.set_cons_succ, i64_w, i32_w]
                              rfl
                            refine pure_ (i := 15) (N := some 41) (v := undef) (a' := ?_) #[true, true, true, true, true, true, true, true, true, true, true, true, true, true, true, true, false, false, false, false, false, false, false] rfl rfl (any_of HT_.out (by kernel_rfl)) (fun _ _ _ h => h) (Or.inr ⟨by rfl, rfl⟩) ?_ ?_
                            rotate_left
                            · simp only [Act.put, List.setIfInBounds_toArray, List.set_cons_zero, List.set_cons_succ, i64_w, i32_w]
                              rfl
                            refine pure_ (i := 16) (N := some 42) (v := undef) (a' := ?_) #[true, true, true, true, true, true, true, true, true, true, true, true, true, true, true, true, true, false, false, false, false, false, false] rfl rfl (any_of HT_.out (by kernel_rfl)) (fun _ _ _ h => h) (Or.inr ⟨by rfl, rfl⟩) ?_ ?_
                            rotate_left
                            · simp only [Act.put, List.setIfInBounds_toArray, List.set_cons_zero, List.set_cons_succ, i64_w, i32_w]
                              rfl
                            refine pure_ (i := 17) (N := some 43) (v := undef) (a' := ?_) #[true, true, true, true, true, true, true, true, true, true, true, true, true, true, true, true, true, true, false, false, false, false, false] rfl rfl (any_of HT_.out (by kernel_rfl)) (fun _ _ _ h => h) (Or.inr ⟨by rfl, rfl⟩) ?_ ?_
                            rotate_left
                            · simp only [Act.put, List.setIfInBounds_toArray, List.set_cons_zero, List.set_cons_succ, i64_w, i32_w]
                              rfl
                            refine pure_ (i := 18) (N := some 44) (v := undef) (a' := ?_) #[true, true, true, true, true, true, true, true, true, true, true, true, true, true, true, true, true, true, true, false, false, false, false] rfl rfl (any_of HT_.out (by kernel_rfl)) (fun _ _ _ h => h) (Or.inr ⟨by rfl, rfl⟩) ?_ ?_
                            rotate_left
                            · simp only [Act.put, List.setIfInBounds_toArray, List.set_cons_zero, List.set_cons_succ, i64_w, i32_w]
                              rfl
                            refine pure_ (i := 19) (N := some 45) (v := undef) (a' := ?_) #[true, true, true, true, true, true, true, true, true, true, true, true, true, true, true, true, true, true, true, true, false, false, false] rfl rfl (any_of HT_.out (by kernel_rfl)) (fun _ _ _ h => h) (Or.inr ⟨by rfl, rfl⟩) ?_ ?_
                            rotate_left
                            · simp only [Act.put, List.setIfInBounds_toArray, List.set_cons_zero, List.set_cons_succ, i64_w, i32_w]
                              rfl
                            refine pure_ (i := 20) (N := some 46) (v := undef) (a' := ?_) #[true, true, true, true, true, true, true, true, true, true, true, true, true, true, true, true, true, true, true, true, true, false, false] rfl rfl (any_of HT_.out (by kernel_rfl)) (fun _ _ _ h => h) (Or.inr ⟨by rfl, rfl⟩) ?_ ?_
                            rotate_left
                            · simp only [Act.put, List.setIfInBounds_toArray, List.set_cons_zero, List.set_cons_succ, i64_w, i32_w]
                              rfl
                            refine pure_ (i := 21) (N := some 47) (v := undef) (a' := ?_) #[true, true, true, true, true, true, true, true, true, true, true, true, true, true, true, true, true, true, true, true, true, true, false] rfl rfl (any_of HT_.out (by kernel_rfl)) (fun _ _ _ h => h) (Or.inr ⟨by rfl, rfl⟩) ?_ ?_
                            rotate_left
                            · simp only [Act.put, List.setIfInBounds_toArray, List.set_cons_zero, List.set_cons_succ, i64_w, i32_w]
                              rfl
                            refine pure_ (i := 22) (N := some 48) (v := ?_) (a' := ?_) #[true, true, true, true, true, true, true, true, true, true, true, true, true, true, true, true, true, true, true, true, true, true, true] rfl rfl (any_of HT_.out (by kernel_rfl)) (fun _ _ _ h => h) (Or.inl ⟨by rfl, ?_⟩) ?_ ?_
                            rotate_left
                            · intro w'
                              go_simp
                              with_reducible rfl
                            rotate_left
                            · simp only [Act.put, List.setIfInBounds_toArray, List.set_cons_zero, List.set_cons_succ, i64_w, i32_w]
                              rfl
                            refine done_ (done_of HT_.out (by kernel_rfl)) ?_
                            try go_wp2
                            go_ret
                            exact ⟨by first | rfl | (simp [errW_none, errW_some] <;> rfl) | (simp [*, errW_none, errW_some] <;> rfl), by repeat (first | (with_reducible first | exact HB.out | apply below_alloc | apply pw_below_drewN | apply below_drew1) | exact HB.out)⟩
                          · rw [if_neg c16] at H
                            have c16b0 : (((rd_T26 t466 x4_1).f5.f0) == ((rd_T26 t466 x5_2).f5.f0) && (((rd_T26 t466 x4_1).f5.f1) == ((rd_T26 t466 x5_2).f5.f1) && (((rd_T26 t466 x4_1).f5.f2) == ((rd_T26 t466 x5_2).f5.f2)))) = false := by simpa using c16
                            (try (have c16b1 : decide (((rd_T26 t466 x4_1).f5.f0) = ((rd_T26 t466 x5_2).f5.f0) && (((rd_T26 t466 x4_1).f5.f1) == ((rd_T26 t466 x5_2).f5.f1) && (((rd_T26 t466 x4_1).f5.f2) == ((rd_T26 t466 x5_2).f5.f2)))) = false := by simpa using c16))
                            (try (have c16b2 : (((rd_T26 t466 x4_1).f5.f0) == ((rd_T26 t466 x5_2).f5.f0) && (((rd_T26 t466 x4_1).f5.f1) == ((rd_T26 t466 x5_2).f5.f1) && (((rd_T26 t466 x4_1).f5.f2) == ((rd_T26 t466 x5_2).f5.f2)))) = false := by simpa using c16))
                            (try (have c16b3 : ¬ (((rd_T26 t466 x4_1).f5.f0) = ((rd_T26 t466 x5_2).f5.f0) && (((rd_T26 t466 x4_1).f5.f1) == ((rd_T26 t466 x5_2).f5.f1) && (((rd_T26 t466 x4_1).f5.f2) == ((rd_T26 t466 x5_2).f5.f2)))) := by simpa using c16))
                            clear c16
                            replace H := Option.bind_eq_some_iff.mp H
                            obtain ⟨t473, A180, H⟩ := H
                            replace H : (if t473 = true then (butterylaw09_ItemOrder.l1 k2 l0 t466 x4_1 (wrap64 (x5_2 + 1))) else (some false)) = some r := H
                            have A18 := Aside0.mk A180
                            clear A180
                            by_cases c19 : t473 = true
                            · subst c19
                              have H1 : (butterylaw09_ItemOrder.l1 k2 l0 t466 x4_1 (wrap64 (x5_2 + 1))) = some r := by rw [if_pos rfl] at H; exact H
                              clear H
                              have H := H1
                              clear H1
                              have H' := Aside0.mk H
                              clear H
                              try go_wp2
                              have n0_ := Aside0.mk (Kd.R_drew HO_3.out)
                              have n1_ := Aside0.mk (below_drew1 HB.out)
                              clear HO_3
                              clear HB
                              have HO_3 := n0_
                              have HB := n1_
                              clear n0_ n1_
                              have p469 : 0 ≤ (x4_1 : Int) := of_decide_eq_true (by first | (with_reducible assumption) | assumption)
                              have q469 : x4_1 < (t466.length : Int) := of_decide_eq_true (by first | (with_reducible assumption) | assumption)
                              obtain ⟨ad469, e469, hx469_0, hx469_1, hx469_2, hx469_3, hx469_4, hx469_5, hx469_6, hx469_7⟩ := at_T26 (Kd.R_reads' HO_3.out).2.2 x4_1 p469 q469
                              cases e469
                              replace p469 := eq_true p469
                              replace q469 := eq_true q469
                              have p470 : 0 ≤ (x5_2 : Int) := of_decide_eq_true (by first | (with_reducible assumption) | assumption)
                              have q470 : x5_2 < (t466.length : Int) := of_decide_eq_true (by first | (with_reducible assumption) | assumption)
                              obtain ⟨ad470, e470, hx470_0, hx470_1, hx470_2, hx470_3, hx470_4, hx470_5, hx470_6, hx470_7⟩ := at_T26 (Kd.R_reads' HO_3.out).2.2 x5_2 p470 q470
                              obtain rfl : ad469 = ad470 := (by injection e470)
                              replace p470 := eq_true p470
                              replace q470 := eq_true q470
                              have p471 : 0 ≤ (x5_2 : Int) := of_decide_eq_true (by first | (with_reducible assumption) | assumption)
                              have q471 : x5_2 < (t466.length : Int) := of_decide_eq_true (by first | (with_reducible assumption) | assumption)
                              obtain ⟨ad471, e471, hx471_0, hx471_1, hx471_2, hx471_3, hx471_4, hx471_5, hx471_6, hx471_7⟩ := at_T26 (Kd.R_reads' HO_3.out).2.2 x5_2 p471 q471
                              obtain rfl : ad469 = ad471 := (by injection e471)
                              replace p471 := eq_true p471
                              replace q471 := eq_true q471
                              have p472 : 0 ≤ (x4_1 : Int) := of_decide_eq_true (by first | (with_reducible assumption) | assumption)
                              have q472 : x4_1 < (t466.length : Int) := of_decide_eq_true (by first | (with_reducible assumption) | assumption)
                              obtain ⟨ad472, e472, hx472_0, hx472_1, hx472_2, hx472_3, hx472_4, hx472_5, hx472_6, hx472_7⟩ := at_T26 (Kd.R_reads' HO_3.out).2.2 x4_1 p472 q472
                              obtain rfl : ad469 = ad472 := (by injection e472)
                              replace p472 := eq_true p472
                              replace q472 := eq_true q472
                              refine start_ (n := 23) (S := fun w' => w'.cell? (ad469.add ((x4_1).toNat * 8)) = some (.string ((rd_T26 t466 x4_1).f0)) ∧ w'.cell? ⟨(ad469.add ((x4_1).toNat * 8)).block, (ad469.add ((x4_1).toNat * 8)).off + 1, none⟩ = some (.string ((rd_T26 t466 x4_1).f1)) ∧ w'.cell? ⟨(ad469.add ((x4_1).toNat * 8)).block, (ad469.add ((x4_1).toNat * 8)).off + 2, none⟩ = some (.int .i64 ((rd_T26 t466 x4_1).f2)) ∧ w'.cell? ⟨(ad469.add ((x4_1).toNat * 8)).block, (ad469.add ((x4_1).toNat * 8)).off + 3, none⟩ = some (.string ((rd_T26 t466 x4_1).f3)) ∧ w'.cell? ⟨(ad469.add ((x4_1).toNat * 8)).block, (ad469.add ((x4_1).toNat * 8)).off + 4, none⟩ = some (.int .i64 ((rd_T26 t466 x4_1).f4)) ∧ w'.cell? ⟨(ad469.add ((x4_1).toNat * 8)).block, (ad469.add ((x4_1).toNat * 8)).off + 5, none⟩ = some (.int .i64 ((rd_T26 t466 x4_1).f5.f0)) ∧ w'.cell? ⟨(ad469.add ((x4_1).toNat * 8)).block, (ad469.add ((x4_1).toNat * 8)).off + 6, none⟩ = some (.int .i64 ((rd_T26 t466 x4_1).f5.f1)) ∧ w'.cell? ⟨(ad469.add ((x4_1).toNat * 8)).block, (ad469.add ((x4_1).toNat * 8)).off + 7, none⟩ = some (.int .i64 ((rd_T26 t466 x4_1).f5.f2)) ∧ w'.cell? (ad469.add ((x5_2).toNat * 8)) = some (.string ((rd_T26 t466 x5_2).f0)) ∧ w'.cell? ⟨(ad469.add ((x5_2).toNat * 8)).block, (ad469.add ((x5_2).toNat * 8)).off + 1, none⟩ = some (.string ((rd_T26 t466 x5_2).f1)) ∧ w'.cell? ⟨(ad469.add ((x5_2).toNat * 8)).block, (ad469.add ((x5_2).toNat * 8)).off + 2, none⟩ = some (.int .i64 ((rd_T26 t466 x5_2).f2)) ∧ w'.cell? ⟨(ad469.add ((x5_2).toNat * 8)).block, (ad469.add ((x5_2).toNat * 8)).off + 3, none⟩ = some (.string ((rd_T26 t466 x5_2).f3)) ∧ w'.cell? ⟨(ad469.add ((x5_2).toNat * 8)).block, (ad469.add ((x5_2).toNat * 8)).off + 4, none⟩ = some (.int .i64 ((rd_T26 t466 x5_2).f4)) ∧ w'.cell? ⟨(ad469.add ((x5_2).toNat * 8)).block, (ad469.add ((x5_2).toNat * 8)).off + 5, none⟩ = some (.int .i64 ((rd_T26 t466 x5_2).f5.f0)) ∧ w'.cell? ⟨(ad469.add ((x5_2).toNat * 8)).block, (ad469.add ((x5_2).toNat * 8)).off + 6, none⟩ = some (.int .i64 ((rd_T26 t466 x5_2).f5.f1)) ∧ w'.cell? ⟨(ad469.add ((x5_2).toNat * 8)).block, (ad469.add ((x5_2).toNat * 8)).off + 7, none⟩ = some (.int .i64 ((rd_T26 t466 x5_2).f5.f2)) ∧ w'.cell? (ad469.add ((x5_2).toNat * 8)) = some (.string ((rd_T26 t466 x5_2).f0)) ∧ w'.cell? ⟨(ad469.add ((x5_2).toNat * 8)).block, (ad469.add ((x5_2).toNat * 8)).off + 1, none⟩ = some (.string ((rd_T26 t466 x5_2).f1)) ∧ w'.cell? ⟨(ad469.add ((x5_2).toNat * 8)).block, (ad469.add ((x5_2).toNat * 8)).off + 2, none⟩ = some (.int .i64 ((rd_T26 t466 x5_2).f2)) ∧ w'.cell? ⟨(ad469.add ((x5_2).toNat * 8)).block, (ad469.add ((x5_2).toNat * 8)).off + 3, none⟩ = some (.string ((rd_T26 t466 x5_2).f3)) ∧ w'.cell? ⟨(ad469.add ((x5_2).toNat * 8)).block, (ad469.add ((x5_2).toNat * 8)).off + 4, none⟩ = some (.int .i64 ((rd_T26 t466 x5_2).f4)) ∧ w'.cell? ⟨(ad469.add ((x5_2).toNat * 8)).block, (ad469.add ((x5_2).toNat * 8)).off + 5, none⟩ = some (.int .i64 ((rd_T26 t466 x5_2).f5.f0)) ∧ w'.cell? ⟨(ad469.add ((x5_2).toNat * 8)).block, (ad469.add ((x5_2).toNat * 8)).off + 6, none⟩ = some (.int .i64 ((rd_T26 t466 x5_2).f5.f1)) ∧ w'.cell? ⟨(ad469.add ((x5_2).toNat * 8)).block, (ad469.add ((x5_2).toNat * 8)).off + 7, none⟩ = some (.int .i64 ((rd_T26 t466 x5_2).f5.f2)) ∧ w'.cell? (ad469.add ((x4_1).toNat * 8)) = some (.string ((rd_T26 t466 x4_1).f0)) ∧ w'.cell? ⟨(ad469.add ((x4_1).toNat * 8)).block, (ad469.add ((x4_1).toNat * 8)).off + 1, none⟩ = some (.string ((rd_T26 t466 x4_1).f1)) ∧ w'.cell? ⟨(ad469.add ((x4_1).toNat * 8)).block, (ad469.add ((x4_1).toNat * 8)).off + 2, none⟩ = some (.int .i64 ((rd_T26 t466 x4_1).f2)) ∧ w'.cell? ⟨(ad469.add ((x4_1).toNat * 8)).block, (ad469.add ((x4_1).toNat * 8)).off + 3, none⟩ = some (.string ((rd_T26 t466 x4_1).f3)) ∧ w'.cell? ⟨(ad469.add ((x4_1).toNat * 8)).block, (ad469.add ((x4_1).toNat * 8)).off + 4, none⟩ = some (.int .i64 ((rd_T26 t466 x4_1).f4)) ∧ w'.cell? ⟨(ad469.add ((x4_1).toNat * 8)).block, (ad469.add ((x4_1).toNat * 8)).off + 5, none⟩ = some (.int .i64 ((rd_T26 t466 x4_1).f5.f0)) ∧ w'.cell? ⟨(ad469.add ((x4_1).toNat * 8)).block, (ad469.add ((x4_1).toNat * 8)).off + 6, none⟩ = some (.int .i64 ((rd_T26 t466 x4_1).f5.f1)) ∧ w'.cell? ⟨(ad469.add ((x4_1).toNat * 8)).block, (ad469.add ((x4_1).toNat * 8)).off + 7, none⟩ = some (.int .i64 ((rd_T26 t466 x4_1).f5.f2))) (ds := []) #[false, false, false, false, false, false, false, false, false, false, false, false, false, false, false, false, false, false, false, false, false, false, false] (by kernel_rfl) rfl rfl ⟨hx469_0, hx469_1, hx469_2, hx469_3, hx469_4, hx469_5, hx469_6, hx469_7, hx470_0, hx470_1, hx470_2, hx470_3, hx470_4, hx470_5, hx470_6, hx470_7, hx471_0, hx471_1, hx471_2, hx471_3, hx471_4, hx471_5, hx471_6, hx471_7, hx472_0, hx472_1, hx472_2, hx472_3, hx472_4, hx472_5, hx472_6, hx472_7⟩ (fun hHeld => ?_); refine with_tabW butterylaw09_ItemOrder.tab12 butterylaw09_ItemOrder.bits12 (fun HT_ HW_ => ?_)
                              generalize wr.drew = w20 at HO_3 HB hx469_0 hx469_1 hx469_2 hx469_3 hx469_4 hx469_5 hx469_6 hx469_7 hx470_0 hx470_1 hx470_2 hx470_3 hx470_4 hx470_5 hx470_6 hx470_7 hx471_0 hx471_1 hx471_2 hx471_3 hx471_4 hx471_5 hx471_6 hx471_7 hx472_0 hx472_1 hx472_2 hx472_3 hx472_4 hx472_5 hx472_6 hx472_7 hHeld ⊢
                              refine pure_ (i := 0) (N := some 26) (v := ?_) (a' := ?_) #[true, false, false, false, false, false, false, false, false, false, false, false, false, false, false, false, false, false, false, false, false, false, false] rfl rfl (any_of HT_.out (by kernel_rfl)) (fun _ _ _ h => h) (Or.inl ⟨by rfl, ?_⟩) ?_ ?_
                              rotate_left
                              · intro w'
                                go_simp
                                with_reducible rfl
                              rotate_left
                              · simp only [Act.put, List.setIfInBounds_toArray, List.set_cons_zero, List.set_cons_succ, i64_w, i32_w]
                                rfl
                              refine pure_ (i := 1) (N := some 27) (v := ?_) (a' := ?_) #[true, true, false, false, false, false, false, false, false, false, false, false, false, false, false, false, false, false, false, false, false, false, false] rfl rfl (any_of HT_.out (by kernel_rfl)) (fun _ _ _ h => h) (Or.inl ⟨by rfl, ?_⟩) ?_ ?_
                              rotate_left
                              · intro w'
                                go_simp
                                with_reducible rfl
                              rotate_left
                              · simp only [Act.put, List.setIfInBounds_toArray, List.set_cons_zero, List.set_cons_succ, i64_w, i32_w]
                                rfl
                              refine pure_ (i := 2) (N := some 28) (v := ?_) (a' := ?_) #[true, true, true, false, false, false, false, false, false, false, false, false, false, false, false, false, false, false, false, false, false, false, false] rfl rfl (any_of HT_.out (by kernel_rfl)) (fun _ _ _ h => h) (Or.inl ⟨by rfl, ?_⟩) ?_ ?_
                              rotate_left
                              · intro w'
                                go_simp
                                with_reducible rfl
                              rotate_left
                              · simp only [Act.put, List.setIfInBounds_toArray, List.set_cons_zero, List.set_cons_succ, i64_w, i32_w]
                                rfl
                              refine pure_ (i := 3) (N := some 29) (v := ?_) (a' := ?_) #[true, true, true, true, false, false, false, false, false, false, false, false, false, false, false, false, false, false, false, false, false, false, false] rfl rfl (any_of HT_.out (by kernel_rfl)) (fun _ _ _ h => h) (Or.inl ⟨by rfl, ?_⟩) ?_ ?_
                              rotate_left
                              · intro w'
                                go_simp
                                with_reducible rfl
                              rotate_left
                              · simp only [Act.put, List.setIfInBounds_toArray, List.set_cons_zero, List.set_cons_succ, i64_w, i32_w]
                                rfl
                              refine pure_ (i := 5) (N := some 31) (v := ?_) (a' := ?_) #[true, true, true, true, false, true, false, false, false, false, false, false, false, false, false, false, false, false, false, false, false, false, false] rfl rfl (any_of HT_.out (by kernel_rfl)) (fun _ _ _ h => h) (Or.inl ⟨by rfl, ?_⟩) ?_ ?_
                              rotate_left
                              · intro w'
                                go_simp
                                with_reducible rfl
                              rotate_left
                              · simp only [Act.put, List.setIfInBounds_toArray, List.set_cons_zero, List.set_cons_succ, i64_w, i32_w]
                                rfl
                              refine pure_ (i := 6) (N := some 32) (v := ?_) (a' := ?_) #[true, true, true, true, false, true, true, false, false, false, false, false, false, false, false, false, false, false, false, false, false, false, false] rfl rfl (any_of HT_.out (by kernel_rfl)) (fun _ _ _ h => h) (Or.inl ⟨by rfl, ?_⟩) ?_ ?_
                              rotate_left
                              · intro w'
                                go_simp
                                with_reducible rfl
                              rotate_left
                              · simp only [Act.put, List.setIfInBounds_toArray, List.set_cons_zero, List.set_cons_succ, i64_w, i32_w]
                                rfl
                              refine pure_ (i := 7) (N := some 33) (v := ?_) (a' := ?_) #[true, true, true, true, false, true, true, true, false, false, false, false, false, false, false, false, false, false, false, false, false, false, false] rfl rfl (any_of HT_.out (by kernel_rfl)) (fun _ _ _ h => h) (Or.inl ⟨by rfl, ?_⟩) ?_ ?_
                              rotate_left
                              · intro w'
                                go_simp
                                with_reducible rfl
                              rotate_left
                              · simp only [Act.put, List.setIfInBounds_toArray, List.set_cons_zero, List.set_cons_succ, i64_w, i32_w]
                                rfl
                              refine pure_ (i := 8) (N := some 34) (v := ?_) (a' := ?_) #[true, true, true, true, false, true, true, true, true, false, false, false, false, false, false, false, false, false, false, false, false, false, false] rfl rfl (any_of HT_.out (by kernel_rfl)) (fun _ _ _ h => h) (Or.inl ⟨by rfl, ?_⟩) ?_ ?_
                              rotate_left
                              · intro w'
                                go_simp
                                with_reducible rfl
                              rotate_left
                              · simp only [Act.put, List.setIfInBounds_toArray, List.set_cons_zero, List.set_cons_succ, i64_w, i32_w]
                                rfl
                              refine take_ (i := 4) (N := some 30) (v := ?_) (a' := ?_) #[true, true, true, true, true, true, true, true, true, false, false, false, false, false, false, false, false, false, false, false, false, false, false] rfl rfl (take_ofW HT_.out HW_.out (by kernel_rfl)) (fun _ _ _ h => h) (Or.inl ⟨by rfl, ?_⟩) hHeld ?_ ?_
                              rotate_left
                              · rintro w' ⟨s0, s1, s2, s3, s4, s5, s6, s7, s8, s9, s10, s11, s12, s13, s14, s15, s16, s17, s18, s19, s20, s21, s22, s23, s24, s25, s26, s27, s28, s29, s30, s31⟩
                                go_simp
                                with_reducible rfl
                              rotate_left
                              · simp only [Act.put, List.setIfInBounds_toArray, List.set_cons_zero, List.set_cons_succ, i64_w, i32_w]
                                rfl
                              refine take_ (i := 9) (N := some 35) (v := ?_) (a' := ?_) #[true, true, true, true, true, true, true, true, true, true, false, false, false, false, false, false, false, false, false, false, false, false, false] rfl rfl (take_ofW HT_.out HW_.out (by kernel_rfl)) (fun _ _ _ h => h) (Or.inl ⟨by rfl, ?_⟩) hHeld ?_ ?_
                              rotate_left
                              · rintro w' ⟨s0, s1, s2, s3, s4, s5, s6, s7, s8, s9, s10, s11, s12, s13, s14, s15, s16, s17, s18, s19, s20, s21, s22, s23, s24, s25, s26, s27, s28, s29, s30, s31⟩
                                go_simp
                                with_reducible rfl
                              rotate_left
                              · simp only [Act.put, List.setIfInBounds_toArray, List.set_cons_zero, List.set_cons_succ, i64_w, i32_w]
                                rfl
                              refine pure_ (i := 10) (N := some 36) (v := ?_) (a' := ?_) #[true, true, true, true, true, true, true, true, true, true, true, false, false, false, false, false, false, false, false, false, false, false, false] rfl rfl (any_of HT_.out (by kernel_rfl)) (fun _ _ _ h => h) (Or.inl ⟨by rfl, ?_⟩) ?_ ?_
                              rotate_left
                              · intro w'
                                go_simp
                                with_reducible rfl
                              rotate_left
                              · simp only [Act.put, List.setIfInBounds_toArray, List.set_cons_zero, List.set_cons_succ, i64_w, i32_w]
                                rfl
                              refine pure_ (i := 11) (N := some 37) (v := ?_) (a' := ?_) #[true, true, true, true, true, true, true, true, true, true, true, true, false, false, false, false, false, false, false, false, false, false, false] rfl rfl (any_of HT_.out (by kernel_rfl)) (fun _ _ _ h => h) (Or.inl ⟨by rfl, ?_⟩) ?_ ?_
                              rotate_left
                              · intro w'
                                go_simp
                                with_reducible rfl
                              rotate_left
                              · simp only [Act.put, List.setIfInBounds_toArray, List.set_cons_zero, List.set_cons_succ, i64_w, i32_w]
                                rfl
                              refine pure_ (i := 12) (N := some 38) (v := ?_) (a' := ?_) #[true, true, true, true, true, true, true, true, true, true, true, true, true, false, false, false, false, false, false, false, false, false, false] rfl rfl (any_of HT_.out (by kernel_rfl)) (fun _ _ _ h => h) (Or.inl ⟨by rfl, ?_⟩) ?_ ?_
                              rotate_left
                              · intro w'
                                go_simp
                                with_reducible rfl
                              rotate_left
                              · simp only [Act.put, List.setIfInBounds_toArray, List.set_cons_zero, List.set_cons_succ, i64_w, i32_w]
                                rfl
                              refine pure_ (i := 13) (N := some 39) (v := ?_) (a' := ?_) #[true, true, true, true, true, true, true, true, true, true, true, true, true, true, false, false, false, false, false, false, false, false, false] rfl rfl (any_of HT_.out (by kernel_rfl)) (fun _ _ _ h => h) (Or.inl ⟨by rfl, ?_⟩) ?_ ?_
                              rotate_left
                              · intro w'
                                go_simp
                                with_reducible rfl
                              rotate_left
                              · simp only [Act.put, List.setIfInBounds_toArray, List.set_cons_zero, List.set_cons_succ, i64_w, i32_w]
                                rfl
                              refine pure_ (i := 14) (N := some 40) (v := ?_) (a' := ?_) #[true, true, true, true, true, true, true, true, true, true, true, true, true, true, true, false, false, false, false, false, false, false, false] rfl rfl (any_of HT_.out (by kernel_rfl)) (fun _ _ _ h => h) (Or.inl ⟨by rfl, ?_⟩) ?_ ?_
                              rotate_left
                              · intro w'
                                go_simp
                                with_reducible rfl
                              rotate_left
                              · simp only [Act.put, List.setIfInBounds_toArray, List.set_cons_zero, List.set_cons_succ, i64_w, i32_w]
                                rfl
                              refine pure_ (i := 16) (N := some 42) (v := ?_) (a' := ?_) #[true, true, true, true, true, true, true, true, true, true, true, true, true, true, true, false, true, false, false, false, false, false, false] rfl rfl (any_of HT_.out (by kernel_rfl)) (fun _ _ _ h => h) (Or.inl ⟨by rfl, ?_⟩) ?_ ?_
                              rotate_left
                              · intro w'
                                go_simp
                                with_reducible rfl
                              rotate_left
                              · simp only [Act.put, List.setIfInBounds_toArray, List.set_cons_zero, List.set_cons_succ, i64_w, i32_w]
                                rfl
                              refine pure_ (i := 17) (N := some 43) (v := ?_) (a' := ?_) #[true, true, true, true, true, true, true, true, true, true, true, true, true, true, true, false, true, true, false, false, false, false, false] rfl rfl (any_of HT_.out (by kernel_rfl)) (fun _ _ _ h => h) (Or.inl ⟨by rfl, ?_⟩) ?_ ?_
                              rotate_left
                              · intro w'
                                go_simp
                                with_reducible rfl
                              rotate_left
                              · simp only [Act.put, List.setIfInBounds_toArray, List.set_cons_zero, List.set_cons_succ, i64_w, i32_w]
                                rfl
                              refine pure_ (i := 18) (N := some 44) (v := ?_) (a' := ?_) #[true, true, true, true, true, true, true, true, true, true, true, true, true, true, true, false, true, true, true, false, false, false, false] rfl rfl (any_of HT_.out (by kernel_rfl)) (fun _ _ _ h => h) (Or.inl ⟨by rfl, ?_⟩) ?_ ?_
                              rotate_left
                              · intro w'
                                go_simp
                                with_reducible rfl
                              rotate_left
                              · simp only [Act.put, List.setIfInBounds_toArray, List.set_cons_zero, List.set_cons_succ, i64_w, i32_w]
                                rfl
                              refine take_ (i := 15) (N := some 41) (v := ?_) (a' := ?_) #[true, true, true, true, true, true, true, true, true, true, true, true, true, true, true, true, true, true, true, false, false, false, false] rfl rfl (take_ofW HT_.out HW_.out (by kernel_rfl)) (fun _ _ _ h => h) (Or.inl ⟨by rfl, ?_⟩) hHeld ?_ ?_
                              rotate_left
                              · rintro w' ⟨s0, s1, s2, s3, s4, s5, s6, s7, s8, s9, s10, s11, s12, s13, s14, s15, s16, s17, s18, s19, s20, s21, s22, s23, s24, s25, s26, s27, s28, s29, s30, s31⟩
                                go_simp
                                with_reducible rfl
                              rotate_left
                              · simp only [Act.put, List.setIfInBounds_toArray, List.set_cons_zero, List.set_cons_succ, i64_w, i32_w]
                                rfl
                              refine take_ (i := 19) (N := some 45) (v := ?_) (a' := ?_) #[true, true, true, true, true, true, true, true, true, true, true, true, true, true, true, true, true, true, true, true, false, false, false] rfl rfl (take_ofW HT_.out HW_.out (by kernel_rfl)) (fun _ _ _ h => h) (Or.inl ⟨by rfl, ?_⟩) hHeld ?_ ?_
                              rotate_left
                              · rintro w' ⟨s0, s1, s2, s3, s4, s5, s6, s7, s8, s9, s10, s11, s12, s13, s14, s15, s16, s17, s18, s19, s20, s21, s22, s23, s24, s25, s26, s27, s28, s29, s30, s31⟩
                                go_simp
                                with_reducible rfl
                              rotate_left
                              · simp only [Act.put, List.setIfInBounds_toArray, List.set_cons_zero, List.set_cons_succ, i64_w, i32_w]
                                rfl
                              refine one_ (i := 20) (N := some 46) #[true, true, true, true, true, true, true, true, true, true, true, true, true, true, true, true, true, true, true, true, true, false, false] rfl rfl (one_of HT_.out (by kernel_rfl)) (by decide) (fun K hK => ?_)
                              refine goes_ Try.func37 (by kernel_rfl) rfl #[.agg #[.string ((rd_T26 t466 x5_2).f0), .string ((rd_T26 t466 x5_2).f1), .int .i64 ((rd_T26 t466 x5_2).f2), .string ((rd_T26 t466 x5_2).f3), .int .i64 ((rd_T26 t466 x5_2).f4), .int .i64 ((rd_T26 t466 x5_2).f5.f0), .int .i64 ((rd_T26 t466 x5_2).f5.f1), .int .i64 ((rd_T26 t466 x5_2).f5.f2)], .agg #[.string ((rd_T26 t466 x4_1).f0), .string ((rd_T26 t466 x4_1).f1), .int .i64 ((rd_T26 t466 x4_1).f2), .string ((rd_T26 t466 x4_1).f3), .int .i64 ((rd_T26 t466 x4_1).f4), .int .i64 ((rd_T26 t466 x4_1).f5.f0), .int .i64 ((rd_T26 t466 x4_1).f5.f1), .int .i64 ((rd_T26 t466 x4_1).f5.f2)]] (by rfl) rfl rfl (by (try simp only [List.map_toArray, List.map_cons, List.map_nil]); first | done | rfl | (simp only [List.length_drop, List.length_take]; rfl)) ?_
                              with_reducible refine (item_Less.calls ((rd_T26 t466 x5_2).f0) ((rd_T26 t466 x5_2).f1) ((rd_T26 t466 x5_2).f2) ((rd_T26 t466 x5_2).f3) ((rd_T26 t466 x5_2).f4) ((rd_T26 t466 x5_2).f5.f0) ((rd_T26 t466 x5_2).f5.f1) ((rd_T26 t466 x5_2).f5.f2) ((rd_T26 t466 x4_1).f0) ((rd_T26 t466 x4_1).f1) ((rd_T26 t466 x4_1).f2) ((rd_T26 t466 x4_1).f3) ((rd_T26 t466 x4_1).f4) ((rd_T26 t466 x4_1).f5.f0) ((rd_T26 t466 x4_1).f5.f1) ((rd_T26 t466 x4_1).f5.f2) true _ A18.out).mono ?_
                              rintro e w21 ⟨rfl, hb⟩
                              have HS0_ := (hb.cell (World.block_lt_of_cell? _ _ (hHeld.1))).trans (hHeld.1)
                              have HS1_ := (hb.cell (World.block_lt_of_cell? _ _ (hHeld.2.1))).trans (hHeld.2.1)
                              have HS2_ := (hb.cell (World.block_lt_of_cell? _ _ (hHeld.2.2.1))).trans (hHeld.2.2.1)
                              have HS3_ := (hb.cell (World.block_lt_of_cell? _ _ (hHeld.2.2.2.1))).trans (hHeld.2.2.2.1)
                              have HS4_ := (hb.cell (World.block_lt_of_cell? _ _ (hHeld.2.2.2.2.1))).trans (hHeld.2.2.2.2.1)
                              have HS5_ := (hb.cell (World.block_lt_of_cell? _ _ (hHeld.2.2.2.2.2.1))).trans (hHeld.2.2.2.2.2.1)
                              have HS6_ := (hb.cell (World.block_lt_of_cell? _ _ (hHeld.2.2.2.2.2.2.1))).trans (hHeld.2.2.2.2.2.2.1)
                              have HS7_ := (hb.cell (World.block_lt_of_cell? _ _ (hHeld.2.2.2.2.2.2.2.1))).trans (hHeld.2.2.2.2.2.2.2.1)
                              have HS8_ := (hb.cell (World.block_lt_of_cell? _ _ (hHeld.2.2.2.2.2.2.2.2.1))).trans (hHeld.2.2.2.2.2.2.2.2.1)
                              have HS9_ := (hb.cell (World.block_lt_of_cell? _ _ (hHeld.2.2.2.2.2.2.2.2.2.1))).trans (hHeld.2.2.2.2.2.2.2.2.2.1)
                              have HS10_ := (hb.cell (World.block_lt_of_cell? _ _ (hHeld.2.2.2.2.2.2.2.2.2.2.1))).trans (hHeld.2.2.2.2.2.2.2.2.2.2.1)
                              have HS11_ := (hb.cell (World.block_lt_of_cell? _ _ (hHeld.2.2.2.2.2.2.2.2.2.2.2.1))).trans (hHeld.2.2.2.2.2.2.2.2.2.2.2.1)
                              have HS12_ := (hb.cell (World.block_lt_of_cell? _ _ (hHeld.2.2.2.2.2.2.2.2.2.2.2.2.1))).trans (hHeld.2.2.2.2.2.2.2.2.2.2.2.2.1)
                              have HS13_ := (hb.cell (World.block_lt_of_cell? _ _ (hHeld.2.2.2.2.2.2.2.2.2.2.2.2.2.1))).trans (hHeld.2.2.2.2.2.2.2.2.2.2.2.2.2.1)
                              have HS14_ := (hb.cell (World.block_lt_of_cell? _ _ (hHeld.2.2.2.2.2.2.2.2.2.2.2.2.2.2.1))).trans (hHeld.2.2.2.2.2.2.2.2.2.2.2.2.2.2.1)
                              have HS15_ := (hb.cell (World.block_lt_of_cell? _ _ (hHeld.2.2.2.2.2.2.2.2.2.2.2.2.2.2.2.1))).trans (hHeld.2.2.2.2.2.2.2.2.2.2.2.2.2.2.2.1)
                              have HS16_ := (hb.cell (World.block_lt_of_cell? _ _ (hHeld.2.2.2.2.2.2.2.2.2.2.2.2.2.2.2.2.1))).trans (hHeld.2.2.2.2.2.2.2.2.2.2.2.2.2.2.2.2.1)
                              have HS17_ := (hb.cell (World.block_lt_of_cell? _ _ (hHeld.2.2.2.2.2.2.2.2.2.2.2.2.2.2.2.2.2.1))).trans (hHeld.2.2.2.2.2.2.2.2.2.2.2.2.2.2.2.2.2.1)
                              have HS18_ := (hb.cell (World.block_lt_of_cell? _ _ (hHeld.2.2.2.2.2.2.2.2.2.2.2.2.2.2.2.2.2.2.1))).trans (hHeld.2.2.2.2.2.2.2.2.2.2.2.2.2.2.2.2.2.2.1)
                              have HS19_ := (hb.cell (World.block_lt_of_cell? _ _ (hHeld.2.2.2.2.2.2.2.2.2.2.2.2.2.2.2.2.2.2.2.1))).trans (hHeld.2.2.2.2.2.2.2.2.2.2.2.2.2.2.2.2.2.2.2.1)
                              have HS20_ := (hb.cell (World.block_lt_of_cell? _ _ (hHeld.2.2.2.2.2.2.2.2.2.2.2.2.2.2.2.2.2.2.2.2.1))).trans (hHeld.2.2.2.2.2.2.2.2.2.2.2.2.2.2.2.2.2.2.2.2.1)
                              have HS21_ := (hb.cell (World.block_lt_of_cell? _ _ (hHeld.2.2.2.2.2.2.2.2.2.2.2.2.2.2.2.2.2.2.2.2.2.1))).trans (hHeld.2.2.2.2.2.2.2.2.2.2.2.2.2.2.2.2.2.2.2.2.2.1)
                              have HS22_ := (hb.cell (World.block_lt_of_cell? _ _ (hHeld.2.2.2.2.2.2.2.2.2.2.2.2.2.2.2.2.2.2.2.2.2.2.1))).trans (hHeld.2.2.2.2.2.2.2.2.2.2.2.2.2.2.2.2.2.2.2.2.2.2.1)
                              have HS23_ := (hb.cell (World.block_lt_of_cell? _ _ (hHeld.2.2.2.2.2.2.2.2.2.2.2.2.2.2.2.2.2.2.2.2.2.2.2.1))).trans (hHeld.2.2.2.2.2.2.2.2.2.2.2.2.2.2.2.2.2.2.2.2.2.2.2.1)
                              have HS24_ := (hb.cell (World.block_lt_of_cell? _ _ (hHeld.2.2.2.2.2.2.2.2.2.2.2.2.2.2.2.2.2.2.2.2.2.2.2.2.1))).trans (hHeld.2.2.2.2.2.2.2.2.2.2.2.2.2.2.2.2.2.2.2.2.2.2.2.2.1)
                              have HS25_ := (hb.cell (World.block_lt_of_cell? _ _ (hHeld.2.2.2.2.2.2.2.2.2.2.2.2.2.2.2.2.2.2.2.2.2.2.2.2.2.1))).trans (hHeld.2.2.2.2.2.2.2.2.2.2.2.2.2.2.2.2.2.2.2.2.2.2.2.2.2.1)
                              have HS26_ := (hb.cell (World.block_lt_of_cell? _ _ (hHeld.2.2.2.2.2.2.2.2.2.2.2.2.2.2.2.2.2.2.2.2.2.2.2.2.2.2.1))).trans (hHeld.2.2.2.2.2.2.2.2.2.2.2.2.2.2.2.2.2.2.2.2.2.2.2.2.2.2.1)
                              have HS27_ := (hb.cell (World.block_lt_of_cell? _ _ (hHeld.2.2.2.2.2.2.2.2.2.2.2.2.2.2.2.2.2.2.2.2.2.2.2.2.2.2.2.1))).trans (hHeld.2.2.2.2.2.2.2.2.2.2.2.2.2.2.2.2.2.2.2.2.2.2.2.2.2.2.2.1)
                              have HS28_ := (hb.cell (World.block_lt_of_cell? _ _ (hHeld.2.2.2.2.2.2.2.2.2.2.2.2.2.2.2.2.2.2.2.2.2.2.2.2.2.2.2.2.1))).trans (hHeld.2.2.2.2.2.2.2.2.2.2.2.2.2.2.2.2.2.2.2.2.2.2.2.2.2.2.2.2.1)
                              have HS29_ := (hb.cell (World.block_lt_of_cell? _ _ (hHeld.2.2.2.2.2.2.2.2.2.2.2.2.2.2.2.2.2.2.2.2.2.2.2.2.2.2.2.2.2.1))).trans (hHeld.2.2.2.2.2.2.2.2.2.2.2.2.2.2.2.2.2.2.2.2.2.2.2.2.2.2.2.2.2.1)
                              have HS30_ := (hb.cell (World.block_lt_of_cell? _ _ (hHeld.2.2.2.2.2.2.2.2.2.2.2.2.2.2.2.2.2.2.2.2.2.2.2.2.2.2.2.2.2.2.1))).trans (hHeld.2.2.2.2.2.2.2.2.2.2.2.2.2.2.2.2.2.2.2.2.2.2.2.2.2.2.2.2.2.2.1)
                              have HS31_ := (hb.cell (World.block_lt_of_cell? _ _ (hHeld.2.2.2.2.2.2.2.2.2.2.2.2.2.2.2.2.2.2.2.2.2.2.2.2.2.2.2.2.2.2.2))).trans (hHeld.2.2.2.2.2.2.2.2.2.2.2.2.2.2.2.2.2.2.2.2.2.2.2.2.2.2.2.2.2.2.2)
                              refine ⟨_, rfl, ?_⟩
                              have n0_ := Aside0.mk (Kd.R_below (by (with_reducible repeat (first | apply Kd.R_alloc | apply Kd.R_drewN | apply Kd.R_drew)); exact HO_3.out) hb)
                              have n1_ := Aside0.mk (below_step (by repeat (first | (with_reducible first | exact HB.out | apply below_alloc | apply pw_below_drewN | apply below_drew1) | exact HB.out)) hb)
                              clear HO_3
                              clear HB
                              have HO_3 := n0_
                              have HB := n1_
                              clear n0_ n1_
                              (try clear hb)
                              (try clear hb2)
                              (try clear hk)
                              (try clear hi)
                              refine hK.out _ _ ⟨HS0_, HS1_, HS2_, HS3_, HS4_, HS5_, HS6_, HS7_, HS8_, HS9_, HS10_, HS11_, HS12_, HS13_, HS14_, HS15_, HS16_, HS17_, HS18_, HS19_, HS20_, HS21_, HS22_, HS23_, HS24_, HS25_, HS26_, HS27_, HS28_, HS29_, HS30_, HS31_⟩ (fun hHeld => ?_)
                              clear hK K
                              refine norm_ (a' := ?_) ?_ ?_
                              rotate_left
                              · show Act.put _ (some 46) _ = _
                                simp only [Act.put, List.setIfInBounds_toArray, List.set_cons_zero, List.set_cons_succ, i64_w, i32_w]
                                rfl
                              refine pure_ (i := 21) (N := some 47) (v := ?_) (a' := ?_) #[true, true, true, true, true, true, true, true, true, true, true, true, true, true, true, true, true, true, true, true, true, true, false] rfl rfl (any_of HT_.out (by kernel_rfl)) (fun _ _ _ h => h) (Or.inl ⟨by rfl, ?_⟩) ?_ ?_
                              rotate_left
                              · intro w'
                                go_simp
                                with_reducible rfl
                              rotate_left
                              · simp only [Act.put, List.setIfInBounds_toArray, List.set_cons_zero, List.set_cons_succ, i64_w, i32_w]
                                rfl
                              refine pure_ (i := 22) (N := some 48) (v := ?_) (a' := ?_) #[true, true, true, true, true, true, true, true, true, true, true, true, true, true, true, true, true, true, true, true, true, true, true] rfl rfl (any_of HT_.out (by kernel_rfl)) (fun _ _ _ h => h) (Or.inl ⟨by rfl, ?_⟩) ?_ ?_
                              rotate_left
                              · intro w'
                                go_simp
                                with_reducible rfl
                              rotate_left
                              · simp only [Act.put, List.setIfInBounds_toArray, List.set_cons_zero, List.set_cons_succ, i64_w, i32_w]
                                rfl
                              refine done_ (done_of HT_.out (by kernel_rfl)) ?_
                              try go_wp2
                              go_roundg k2
                              case measure => have := HK1.out; have := HK2.out; omega
                              case rel => exact ⟨(wrap64 (x5_2 + 1)), (by first | rfl | (simp; done) | (simp [*]; done)), H', ⟨by have := HK1.out; have := HK2.out; omega⟩, ⟨by (with_reducible repeat (first | apply Kd.R_alloc | apply Kd.R_drewN | apply Kd.R_drew)); exact HO_3.out⟩, ⟨by repeat (first | (with_reducible first | exact HB.out | apply below_alloc | apply pw_below_drewN | apply below_drew1) | exact HB.out)⟩⟩
                            · replace c19 := Bool.eq_false_iff.mpr c19
                              subst c19
                              have H1 : (some false) = some r := by rw [if_neg (show ¬ (false = true) by decide)] at H; exact H
                              clear H
                              have H := H1
                              clear H1
                              obtain rfl := Option.some.inj H
                              try go_wp2
                              have n0_ := Aside0.mk (Kd.R_drew HO_3.out)
                              have n1_ := Aside0.mk (below_drew1 HB.out)
                              clear HO_3
                              clear HB
                              have HO_3 := n0_
                              have HB := n1_
                              clear n0_ n1_
                              have p469 : 0 ≤ (x4_1 : Int) := of_decide_eq_true (by first | (with_reducible assumption) | assumption)
                              have q469 : x4_1 < (t466.length : Int) := of_decide_eq_true (by first | (with_reducible assumption) | assumption)
                              obtain ⟨ad469, e469, hx469_0, hx469_1, hx469_2, hx469_3, hx469_4, hx469_5, hx469_6, hx469_7⟩ := at_T26 (Kd.R_reads' HO_3.out).2.2 x4_1 p469 q469
                              cases e469
                              replace p469 := eq_true p469
                              replace q469 := eq_true q469
                              have p470 : 0 ≤ (x5_2 : Int) := of_decide_eq_true (by first | (with_reducible assumption) | assumption)
                              have q470 : x5_2 < (t466.length : Int) := of_decide_eq_true (by first | (with_reducible assumption) | assumption)
                              obtain ⟨ad470, e470, hx470_0, hx470_1, hx470_2, hx470_3, hx470_4, hx470_5, hx470_6, hx470_7⟩ := at_T26 (Kd.R_reads' HO_3.out).2.2 x5_2 p470 q470
                              obtain rfl : ad469 = ad470 := (by injection e470)
                              replace p470 := eq_true p470
                              replace q470 := eq_true q470
                              have p471 : 0 ≤ (x5_2 : Int) := of_decide_eq_true (by first | (with_reducible assumption) | assumption)
                              have q471 : x5_2 < (t466.length : Int) := of_decide_eq_true (by first | (with_reducible assumption) | assumption)
                              obtain ⟨ad471, e471, hx471_0, hx471_1, hx471_2, hx471_3, hx471_4, hx471_5, hx471_6, hx471_7⟩ := at_T26 (Kd.R_reads' HO_3.out).2.2 x5_2 p471 q471
                              obtain rfl : ad469 = ad471 := (by injection e471)
                              replace p471 := eq_true p471
                              replace q471 := eq_true q471
                              have p472 : 0 ≤ (x4_1 : Int) := of_decide_eq_true (by first | (with_reducible assumption) | assumption)
                              have q472 : x4_1 < (t466.length : Int) := of_decide_eq_true (by first | (with_reducible assumption) | assumption)
                              obtain ⟨ad472, e472, hx472_0, hx472_1, hx472_2, hx472_3, hx472_4, hx472_5, hx472_6, hx472_7⟩ := at_T26 (Kd.R_reads' HO_3.out).2.2 x4_1 p472 q472
                              obtain rfl : ad469 = ad472 := (by injection e472)
                              replace p472 := eq_true p472
                              replace q472 := eq_true q472
                              refine start_ (n := 23) (S := fun w' => w'.cell? (ad469.add ((x4_1).toNat * 8)) = some (.string ((rd_T26 t466 x4_1).f0)) ∧ w'.cell? ⟨(ad469.add ((x4_1).toNat * 8)).block, (ad469.add ((x4_1).toNat * 8)).off + 1, none⟩ = some (.string ((rd_T26 t466 x4_1).f1)) ∧ w'.cell? ⟨(ad469.add ((x4_1).toNat * 8)).block, (ad469.add ((x4_1).toNat * 8)).off + 2, none⟩ = some (.int .i64 ((rd_T26 t466 x4_1).f2)) ∧ w'.cell? ⟨(ad469.add ((x4_1).toNat * 8)).block, (ad469.add ((x4_1).toNat * 8)).off + 3, none⟩ = some (.string ((rd_T26 t466 x4_1).f3)) ∧ w'.cell? ⟨(ad469.add ((x4_1).toNat * 8)).block, (ad469.add ((x4_1).toNat * 8)).off + 4, none⟩ = some (.int .i64 ((rd_T26 t466 x4_1).f4)) ∧ w'.cell? ⟨(ad469.add ((x4_1).toNat * 8)).block, (ad469.add ((x4_1).toNat * 8)).off + 5, none⟩ = some (.int .i64 ((rd_T26 t466 x4_1).f5.f0)) ∧ w'.cell? ⟨(ad469.add ((x4_1).toNat * 8)).block, (ad469.add ((x4_1).toNat * 8)).off + 6, none⟩ = some (.int .i64 ((rd_T26 t466 x4_1).f5.f1)) ∧ w'.cell? ⟨(ad469.add ((x4_1).toNat * 8)).block, (ad469.add ((x4_1).toNat * 8)).off + 7, none⟩ = some (.int .i64 ((rd_T26 t466 x4_1).f5.f2)) ∧ w'.cell? (ad469.add ((x5_2).toNat * 8)) = some (.string ((rd_T26 t466 x5_2).f0)) ∧ w'.cell? ⟨(ad469.add ((x5_2).toNat * 8)).block, (ad469.add ((x5_2).toNat * 8)).off + 1, none⟩ = some (.string ((rd_T26 t466 x5_2).f1)) ∧ w'.cell? ⟨(ad469.add ((x5_2).toNat * 8)).block, (ad469.add ((x5_2).toNat * 8)).off + 2, none⟩ = some (.int .i64 ((rd_T26 t466 x5_2).f2)) ∧ w'.cell? ⟨(ad469.add ((x5_2).toNat * 8)).block, (ad469.add ((x5_2).toNat * 8)).off + 3, none⟩ = some (.string ((rd_T26 t466 x5_2).f3)) ∧ w'.cell? ⟨(ad469.add ((x5_2).toNat * 8)).block, (ad469.add ((x5_2).toNat * 8)).off + 4, none⟩ = some (.int .i64 ((rd_T26 t466 x5_2).f4)) ∧ w'.cell? ⟨(ad469.add ((x5_2).toNat * 8)).block, (ad469.add ((x5_2).toNat * 8)).off + 5, none⟩ = some (.int .i64 ((rd_T26 t466 x5_2).f5.f0)) ∧ w'.cell? ⟨(ad469.add ((x5_2).toNat * 8)).block, (ad469.add ((x5_2).toNat * 8)).off + 6, none⟩ = some (.int .i64 ((rd_T26 t466 x5_2).f5.f1)) ∧ w'.cell? ⟨(ad469.add ((x5_2).toNat * 8)).block, (ad469.add ((x5_2).toNat * 8)).off + 7, none⟩ = some (.int .i64 ((rd_T26 t466 x5_2).f5.f2)) ∧ w'.cell? (ad469.add ((x5_2).toNat * 8)) = some (.string ((rd_T26 t466 x5_2).f0)) ∧ w'.cell? ⟨(ad469.add ((x5_2).toNat * 8)).block, (ad469.add ((x5_2).toNat * 8)).off + 1, none⟩ = some (.string ((rd_T26 t466 x5_2).f1)) ∧ w'.cell? ⟨(ad469.add ((x5_2).toNat * 8)).block, (ad469.add ((x5_2).toNat * 8)).off + 2, none⟩ = some (.int .i64 ((rd_T26 t466 x5_2).f2)) ∧ w'.cell? ⟨(ad469.add ((x5_2).toNat * 8)).block, (ad469.add ((x5_2).toNat * 8)).off + 3, none⟩ = some (.string ((rd_T26 t466 x5_2).f3)) ∧ w'.cell? ⟨(ad469.add ((x5_2).toNat * 8)).block, (ad469.add ((x5_2).toNat * 8)).off + 4, none⟩ = some (.int .i64 ((rd_T26 t466 x5_2).f4)) ∧ w'.cell? ⟨(ad469.add ((x5_2).toNat * 8)).block, (ad469.add ((x5_2).toNat * 8)).off + 5, none⟩ = some (.int .i64 ((rd_T26 t466 x5_2).f5.f0)) ∧ w'.cell? ⟨(ad469.add ((x5_2).toNat * 8)).block, (ad469.add ((x5_2).toNat * 8)).off + 6, none⟩ = some (.int .i64 ((rd_T26 t466 x5_2).f5.f1)) ∧ w'.cell? ⟨(ad469.add ((x5_2).toNat * 8)).block, (ad469.add ((x5_2).toNat * 8)).off + 7, none⟩ = some (.int .i64 ((rd_T26 t466 x5_2).f5.f2)) ∧ w'.cell? (ad469.add ((x4_1).toNat * 8)) = some (.string ((rd_T26 t466 x4_1).f0)) ∧ w'.cell? ⟨(ad469.add ((x4_1).toNat * 8)).block, (ad469.add ((x4_1).toNat * 8)).off + 1, none⟩ = some (.string ((rd_T26 t466 x4_1).f1)) ∧ w'.cell? ⟨(ad469.add ((x4_1).toNat * 8)).block, (ad469.add ((x4_1).toNat * 8)).off + 2, none⟩ = some (.int .i64 ((rd_T26 t466 x4_1).f2)) ∧ w'.cell? ⟨(ad469.add ((x4_1).toNat * 8)).block, (ad469.add ((x4_1).toNat * 8)).off + 3, none⟩ = some (.string ((rd_T26 t466 x4_1).f3)) ∧ w'.cell? ⟨(ad469.add ((x4_1).toNat * 8)).block, (ad469.add ((x4_1).toNat * 8)).off + 4, none⟩ = some (.int .i64 ((rd_T26 t466 x4_1).f4)) ∧ w'.cell? ⟨(ad469.add ((x4_1).toNat * 8)).block, (ad469.add ((x4_1).toNat * 8)).off + 5, none⟩ = some (.int .i64 ((rd_T26 t466 x4_1).f5.f0)) ∧ w'.cell? ⟨(ad469.add ((x4_1).toNat * 8)).block, (ad469.add ((x4_1).toNat * 8)).off + 6, none⟩ = some (.int .i64 ((rd_T26 t466 x4_1).f5.f1)) ∧ w'.cell? ⟨(ad469.add ((x4_1).toNat * 8)).block, (ad469.add ((x4_1).toNat * 8)).off + 7, none⟩ = some (.int .i64 ((rd_T26 t466 x4_1).f5.f2))) (ds := []) #[false, false, false, false, false, false, false, false, false, false, false, false, false, false, false, false, false, false, false, false, false, false, false] (by kernel_rfl) rfl rfl ⟨hx469_0, hx469_1, hx469_2, hx469_3, hx469_4, hx469_5, hx469_6, hx469_7, hx470_0, hx470_1, hx470_2, hx470_3, hx470_4, hx470_5, hx470_6, hx470_7, hx471_0, hx471_1, hx471_2, hx471_3, hx471_4, hx471_5, hx471_6, hx471_7, hx472_0, hx472_1, hx472_2, hx472_3, hx472_4, hx472_5, hx472_6, hx472_7⟩ (fun hHeld => ?_); refine with_tabW butterylaw09_ItemOrder.tab12 butterylaw09_ItemOrder.bits12 (fun HT_ HW_ => ?_)
                              generalize wr.drew = w22 at HO_3 HB hx469_0 hx469_1 hx469_2 hx469_3 hx469_4 hx469_5 hx469_6 hx469_7 hx470_0 hx470_1 hx470_2 hx470_3 hx470_4 hx470_5 hx470_6 hx470_7 hx471_0 hx471_1 hx471_2 hx471_3 hx471_4 hx471_5 hx471_6 hx471_7 hx472_0 hx472_1 hx472_2 hx472_3 hx472_4 hx472_5 hx472_6 hx472_7 hHeld ⊢
                              refine pure_ (i := 0) (N := some 26) (v := ?_) (a' := ?_) #[true, false, false, false, false, false, false, false, false, false, false, false, false, false, false, false, false, false, false, false, false, false, false] rfl rfl (any_of HT_.out (by kernel_rfl)) (fun _ _ _ h => h) (Or.inl ⟨by rfl, ?_⟩) ?_ ?_
                              rotate_left
                              · intro w'
                                go_simp
                                with_reducible rfl
                              rotate_left
                              · simp only [Act.put, List.setIfInBounds_toArray, List.set_cons_zero, List.set_cons_succ, i64_w, i32_w]
                                rfl
                              refine pure_ (i := 1) (N := some 27) (v := ?_) (a' := ?_) #[true, true, false, false, false, false, false, false, false, false, false, false, false, false, false, false, false, false, false, false, false, false, false] rfl rfl (any_of HT_.out (by kernel_rfl)) (fun _ _ _ h => h) (Or.inl ⟨by rfl, ?_⟩) ?_ ?_
                              rotate_left
                              · intro w'
                                go_simp
                                with_reducible rfl
                              rotate_left
                              · simp only [Act.put, List.setIfInBounds_toArray, List.set_cons_zero, List.set_cons_succ, i64_w, i32_w]
                                rfl
                              refine pure_ (i := 2) (N := some 28) (v := ?_) (a' := ?_) #[true, true, true, false, false, false, false, false, false, false, false, false, false, false, false, false, false, false, false, false, false, false, false] rfl rfl (any_of HT_.out (by kernel_rfl)) (fun _ _ _ h => h) (Or.inl ⟨by rfl, ?_⟩) ?_ ?_
                              rotate_left
                              · intro w'
                                go_simp
                                with_reducible rfl
                              rotate_left
                              · simp only [Act.put, List.setIfInBounds_toArray, List.set_cons_zero, List.set_cons_succ, i64_w, i32_w]
                                rfl
                              refine pure_ (i := 3) (N := some 29) (v := ?_) (a' := ?_) #[true, true, true, true, false, false, false, false, false, false, false, false, false, false, false, false, false, false, false, false, false, false, false] rfl rfl (any_of HT_.out (by kernel_rfl)) (fun _ _ _ h => h) (Or.inl ⟨by rfl, ?_⟩) ?_ ?_
                              rotate_left
                              · intro w'
                                go_simp
                                with_reducible rfl
                              rotate_left
                              · simp only [Act.put, List.setIfInBounds_toArray, List.set_cons_zero, List.set_cons_succ, i64_w, i32_w]
                                rfl
                              refine pure_ (i := 5) (N := some 31) (v := ?_) (a' := ?_) #[true, true, true, true, false, true, false, false, false, false, false, false, false, false, false, false, false, false, false, false, false, false, false] rfl rfl (any_of HT_.out (by kernel_rfl)) (fun _ _ _ h => h) (Or.inl ⟨by rfl, ?_⟩) ?_ ?_
                              rotate_left
                              · intro w'
                                go_simp
                                with_reducible rfl
                              rotate_left
                              · simp only [Act.put, List.setIfInBounds_toArray, List.set_cons_zero, List.set_cons_succ, i64_w, i32_w]
                                rfl
                              refine pure_ (i := 6) (N := some 32) (v := ?_) (a' := ?_) #[true, true, true, true, false, true, true, false, false, false, false, false, false, false, false, false, false, false, false, false, false, false, false] rfl rfl (any_of HT_.out (by kernel_rfl)) (fun _ _ _ h => h) (Or.inl ⟨by rfl, ?_⟩) ?_ ?_
                              rotate_left
                              · intro w'
                                go_simp
                                with_reducible rfl
                              rotate_left
                              · simp only [Act.put, List.setIfInBounds_toArray, List.set_cons_zero, List.set_cons_succ, i64_w, i32_w]
                                rfl
                              refine pure_ (i := 7) (N := some 33) (v := ?_) (a' := ?_) #[true, true, true, true, false, true, true, true, false, false, false, false, false, false, false, false, false, false, false, false, false, false, false] rfl rfl (any_of HT_.out (by kernel_rfl)) (fun _ _ _ h => h) (Or.inl ⟨by rfl, ?_⟩) ?_ ?_
                              rotate_left
                              · intro w'
                                go_simp
                                with_reducible rfl
                              rotate_left
                              · simp only [Act.put, List.setIfInBounds_toArray, List.set_cons_zero, List.set_cons_succ, i64_w, i32_w]
                                rfl
                              refine pure_ (i := 8) (N := some 34) (v := ?_) (a' := ?_) #[true, true, true, true, false, true, true, true, true, false, false, false, false, false, false, false, false, false, false, false, false, false, false] rfl rfl (any_of HT_.out (by kernel_rfl)) (fun _ _ _ h => h) (Or.inl ⟨by rfl, ?_⟩) ?_ ?_
                              rotate_left
                              · intro w'
                                go_simp
                                with_reducible rfl
                              rotate_left
                              · simp only [Act.put, List.setIfInBounds_toArray, List.set_cons_zero, List.set_cons_succ, i64_w, i32_w]
                                rfl
                              refine take_ (i := 4) (N := some 30) (v := ?_) (a' := ?_) #[true, true, true, true, true, true, true, true, true, false, false, false, false, false, false, false, false, false, false, false, false, false, false] rfl rfl (take_ofW HT_.out HW_.out (by kernel_rfl)) (fun _ _ _ h => h) (Or.inl ⟨by rfl, ?_⟩) hHeld ?_ ?_
                              rotate_left
                              · rintro w' ⟨s0, s1, s2, s3, s4, s5, s6, s7, s8, s9, s10, s11, s12, s13, s14, s15, s16, s17, s18, s19, s20, s21, s22, s23, s24, s25, s26, s27, s28, s29, s30, s31⟩
                                go_simp
                                with_reducible rfl
                              rotate_left
                              · simp only [Act.put, List.setIfInBounds_toArray, List.set_cons_zero, List.set_cons_succ, i64_w, i32_w]
                                rfl
                              refine take_ (i := 9) (N := some 35) (v := ?_) (a' := ?_) #[true, true, true, true, true, true, true, true, true, true, false, false, false, false, false, false, false, false, false, false, false, false, false] rfl rfl (take_ofW HT_.out HW_.out (by kernel_rfl)) (fun _ _ _ h => h) (Or.inl ⟨by rfl, ?_⟩) hHeld ?_ ?_
                              rotate_left
                              · rintro w' ⟨s0, s1, s2, s3, s4, s5, s6, s7, s8, s9, s10, s11, s12, s13, s14, s15, s16, s17, s18, s19, s20, s21, s22, s23, s24, s25, s26, s27, s28, s29, s30, s31⟩
                                go_simp
                                with_reducible rfl
                              rotate_left
                              · simp only [Act.put, List.setIfInBounds_toArray, List.set_cons_zero, List.set_cons_succ, i64_w, i32_w]
                                rfl
                              refine pure_ (i := 10) (N := some 36) (v := ?_) (a' := ?_) #[true, true, true, true, true, true, true, true, true, true, true, false, false, false, false, false, false, false, false, false, false, false, false] rfl rfl (any_of HT_.out (by kernel_rfl)) (fun _ _ _ h => h) (Or.inl ⟨by rfl, ?_⟩) ?_ ?_
                              rotate_left
                              · intro w'
                                go_simp
                                with_reducible rfl
                              rotate_left
                              · simp only [Act.put, List.setIfInBounds_toArray, List.set_cons_zero, List.set_cons_succ, i64_w, i32_w]
                                rfl
                              refine pure_ (i := 11) (N := some 37) (v := ?_) (a' := ?_) #[true, true, true, true, true, true, true, true, true, true, true, true, false, false, false, false, false, false, false, false, false, false, false] rfl rfl (any_of HT_.out (by kernel_rfl)) (fun _ _ _ h => h) (Or.inl ⟨by rfl, ?_⟩) ?_ ?_
                              rotate_left
                              · intro w'
                                go_simp
                                with_reducible rfl
                              rotate_left
                              · simp only [Act.put, List.setIfInBounds_toArray, List.set_cons_zero, List.set_cons_succ, i64_w, i32_w]
                                rfl
                              refine pure_ (i := 12) (N := some 38) (v := ?_) (a' := ?_) #[true, true, true, true, true, true, true, true, true, true, true, true, true, false, false, false, false, false, false, false, false, false, false] rfl rfl (any_of HT_.out (by kernel_rfl)) (fun _ _ _ h => h) (Or.inl ⟨by rfl, ?_⟩) ?_ ?_
                              rotate_left
                              · intro w'
                                go_simp
                                with_reducible rfl
                              rotate_left
                              · simp only [Act.put, List.setIfInBounds_toArray, List.set_cons_zero, List.set_cons_succ, i64_w, i32_w]
                                rfl
                              refine pure_ (i := 13) (N := some 39) (v := ?_) (a' := ?_) #[true, true, true, true, true, true, true, true, true, true, true, true, true, true, false, false, false, false, false, false, false, false, false] rfl rfl (any_of HT_.out (by kernel_rfl)) (fun _ _ _ h => h) (Or.inl ⟨by rfl, ?_⟩) ?_ ?_
                              rotate_left
                              · intro w'
                                go_simp
                                with_reducible rfl
                              rotate_left
                              · simp only [Act.put, List.setIfInBounds_toArray, List.set_cons_zero, List.set_cons_succ, i64_w, i32_w]
                                rfl
                              refine pure_ (i := 14) (N := some 40) (v := ?_) (a' := ?_) #[true, true, true, true, true, true, true, true, true, true, true, true, true, true, true, false, false, false, false, false, false, false, false] rfl rfl (any_of HT_.out (by kernel_rfl)) (fun _ _ _ h => h) (Or.inl ⟨by rfl, ?_⟩) ?_ ?_
                              rotate_left
                              · intro w'
                                go_simp
                                with_reducible rfl
                              rotate_left
                              · simp only [Act.put, List.setIfInBounds_toArray, List.set_cons_zero, List.set_cons_succ, i64_w, i32_w]
                                rfl
                              refine pure_ (i := 16) (N := some 42) (v := ?_) (a' := ?_) #[true, true, true, true, true, true, true, true, true, true, true, true, true, true, true, false, true, false, false, false, false, false, false] rfl rfl (any_of HT_.out (by kernel_rfl)) (fun _ _ _ h => h) (Or.inl ⟨by rfl, ?_⟩) ?_ ?_
                              rotate_left
                              · intro w'
                                go_simp
                                with_reducible rfl
                              rotate_left
                              · simp only [Act.put, List.setIfInBounds_toArray, List.set_cons_zero, List.set_cons_succ, i64_w, i32_w]
                                rfl
                              refine pure_ (i := 17) (N := some 43) (v := ?_) (a' := ?_) #[true, true, true, true, true, true, true, true, true, true, true, true, true, true, true, false, true, true, false, false, false, false, false] rfl rfl (any_of HT_.out (by kernel_rfl)) (fun _ _ _ h => h) (Or.inl ⟨by rfl, ?_⟩) ?_ ?_
                              rotate_left
                              · intro w'
                                go_simp
                                with_reducible rfl
                              rotate_left
                              · simp only [Act.put, List.setIfInBounds_toArray, List.set_cons_zero, List.set_cons_succ, i64_w, i32_w]
                                rfl
                              refine pure_ (i := 18) (N := some 44) (v := ?_) (a' := ?_) #[true, true, true, true, true, true, true, true, true, true, true, true, true, true, true, false, true, true, true, false, false, false, false] rfl rfl (any_of HT_.out (by kernel_rfl)) (fun _ _ _ h => h) (Or.inl ⟨by rfl, ?_⟩) ?_ ?_
                              rotate_left
                              · intro w'
                                go_simp
                                with_reducible rfl
                              rotate_left
                              · simp only [Act.put, List.setIfInBounds_toArray, List.set_cons_zero, List.set_cons_succ, i64_w, i32_w]
                                rfl
                              refine take_ (i := 15) (N := some 41) (v := ?_) (a' := ?_) #[true, true, true, true, true, true, true, true, true, true, true, true, true, true, true, true, true, true, true, false, false, false, false] rfl rfl (take_ofW HT_.out HW_.out (by kernel_rfl)) (fun _ _ _ h => h) (Or.inl ⟨by rfl, ?_⟩) hHeld ?_ ?_
                              rotate_left
                              · rintro w' ⟨s0, s1, s2, s3, s4, s5, s6, s7, s8, s9, s10, s11, s12, s13, s14, s15, s16, s17, s18, s19, s20, s21, s22, s23, s24, s25, s26, s27, s28, s29, s30, s31⟩
                                go_simp
                                with_reducible rfl
                              rotate_left
                              · simp only [Act.put, List.setIfInBounds_toArray, List.set_cons_zero, List.set_cons_succ, i64_w, i32_w]
                                rfl
                              refine take_ (i := 19) (N := some 45) (v := ?_) (a' := ?_) #[true, true, true, true, true, true, true, true, true, true, true, true, true, true, true, true, true, true, true, true, false, false, false] rfl rfl (take_ofW HT_.out HW_.out (by kernel_rfl)) (fun _ _ _ h => h) (Or.inl ⟨by rfl, ?_⟩) hHeld ?_ ?_
                              rotate_left
                              · rintro w' ⟨s0, s1, s2, s3, s4, s5, s6, s7, s8, s9, s10, s11, s12, s13, s14, s15, s16, s17, s18, s19, s20, s21, s22, s23, s24, s25, s26, s27, s28, s29, s30, s31⟩
                                go_simp
                                with_reducible rfl
                              rotate_left
                              · simp only [Act.put, List.setIfInBounds_toArray, List.set_cons_zero, List.set_cons_succ, i64_w, i32_w]
                                rfl
                              refine one_ (i := 20) (N := some 46) #[true, true, true, true, true, true, true, true, true, true, true, true, true, true, true, true, true, true, true, true, true, false, false] rfl rfl (one_of HT_.out (by kernel_rfl)) (by decide) (fun K hK => ?_)
                              refine goes_ Try.func37 (by kernel_rfl) rfl #[.agg #[.string ((rd_T26 t466 x5_2).f0), .string ((rd_T26 t466 x5_2).f1), .int .i64 ((rd_T26 t466 x5_2).f2), .string ((rd_T26 t466 x5_2).f3), .int .i64 ((rd_T26 t466 x5_2).f4), .int .i64 ((rd_T26 t466 x5_2).f5.f0), .int .i64 ((rd_T26 t466 x5_2).f5.f1), .int .i64 ((rd_T26 t466 x5_2).f5.f2)], .agg #[.string ((rd_T26 t466 x4_1).f0), .string ((rd_T26 t466 x4_1).f1), .int .i64 ((rd_T26 t466 x4_1).f2), .string ((rd_T26 t466 x4_1).f3), .int .i64 ((rd_T26 t466 x4_1).f4), .int .i64 ((rd_T26 t466 x4_1).f5.f0), .int .i64 ((rd_T26 t466 x4_1).f5.f1), .int .i64 ((rd_T26 t466 x4_1).f5.f2)]] (by rfl) rfl rfl (by (try simp only [List.map_toArray, List.map_cons, List.map_nil]); first | done | rfl | (simp only [List.length_drop, List.length_take]; rfl)) ?_
                              with_reducible refine (item_Less.calls ((rd_T26 t466 x5_2).f0) ((rd_T26 t466 x5_2).f1) ((rd_T26 t466 x5_2).f2) ((rd_T26 t466 x5_2).f3) ((rd_T26 t466 x5_2).f4) ((rd_T26 t466 x5_2).f5.f0) ((rd_T26 t466 x5_2).f5.f1) ((rd_T26 t466 x5_2).f5.f2) ((rd_T26 t466 x4_1).f0) ((rd_T26 t466 x4_1).f1) ((rd_T26 t466 x4_1).f2) ((rd_T26 t466 x4_1).f3) ((rd_T26 t466 x4_1).f4) ((rd_T26 t466 x4_1).f5.f0) ((rd_T26 t466 x4_1).f5.f1) ((rd_T26 t466 x4_1).f5.f2) false _ A18.out).mono ?_
                              rintro e w23 ⟨rfl, hb⟩
                              have HS0_ := (hb.cell (World.block_lt_of_cell? _ _ (hHeld.1))).trans (hHeld.1)
                              have HS1_ := (hb.cell (World.block_lt_of_cell? _ _ (hHeld.2.1))).trans (hHeld.2.1)
                              have HS2_ := (hb.cell (World.block_lt_of_cell? _ _ (hHeld.2.2.1))).trans (hHeld.2.2.1)
                              have HS3_ := (hb.cell (World.block_lt_of_cell? _ _ (hHeld.2.2.2.1))).trans (hHeld.2.2.2.1)
                              have HS4_ := (hb.cell (World.block_lt_of_cell? _ _ (hHeld.2.2.2.2.1))).trans (hHeld.2.2.2.2.1)
                              have HS5_ := (hb.cell (World.block_lt_of_cell? _ _ (hHeld.2.2.2.2.2.1))).trans (hHeld.2.2.2.2.2.1)
                              have HS6_ := (hb.cell (World.block_lt_of_cell? _ _ (hHeld.2.2.2.2.2.2.1))).trans (hHeld.2.2.2.2.2.2.1)
                              have HS7_ := (hb.cell (World.block_lt_of_cell? _ _ (hHeld.2.2.2.2.2.2.2.1))).trans (hHeld.2.2.2.2.2.2.2.1)
                              have HS8_ := (hb.cell (World.block_lt_of_cell? _ _ (hHeld.2.2.2.2.2.2.2.2.1))).trans (hHeld.2.2.2.2.2.2.2.2.1)
                              have HS9_ := (hb.cell (World.block_lt_of_cell? _ _ (hHeld.2.2.2.2.2.2.2.2.2.1))).trans (hHeld.2.2.2.2.2.2.2.2.2.1)
                              have HS10_ := (hb.cell (World.block_lt_of_cell? _ _ (hHeld.2.2.2.2.2.2.2.2.2.2.1))).trans (hHeld.2.2.2.2.2.2.2.2.2.2.1)
                              have HS11_ := (hb.cell (World.block_lt_of_cell? _ _ (hHeld.2.2.2.2.2.2.2.2.2.2.2.1))).trans (hHeld.2.2.2.2.2.2.2.2.2.2.2.1)
                              have HS12_ := (hb.cell (World.block_lt_of_cell? _ _ (hHeld.2.2.2.2.2.2.2.2.2.2.2.2.1))).trans (hHeld.2.2.2.2.2.2.2.2.2.2.2.2.1)
                              have HS13_ := (hb.cell (World.block_lt_of_cell? _ _ (hHeld.2.2.2.2.2.2.2.2.2.2.2.2.2.1))).trans (hHeld.2.2.2.2.2.2.2.2.2.2.2.2.2.1)
                              have HS14_ := (hb.cell (World.block_lt_of_cell? _ _ (hHeld.2.2.2.2.2.2.2.2.2.2.2.2.2.2.1))).trans (hHeld.2.2.2.2.2.2.2.2.2.2.2.2.2.2.1)
                              have HS15_ := (hb.cell (World.block_lt_of_cell? _ _ (hHeld.2.2.2.2.2.2.2.2.2.2.2.2.2.2.2.1))).trans (hHeld.2.2.2.2.2.2.2.2.2.2.2.2.2.2.2.1)
                              have HS16_ := (hb.cell (World.block_lt_of_cell? _ _ (hHeld.2.2.2.2.2.2.2.2.2.2.2.2.2.2.2.2.1))).trans (hHeld.2.2.2.2.2.2.2.2.2.2.2.2.2.2.2.2.1)
                              have HS17_ := (hb.cell (World.block_lt_of_cell? _ _ (hHeld.2.2.2.2.2.2.2.2.2.2.2.2.2.2.2.2.2.1))).trans (hHeld.2.2.2.2.2.2.2.2.2.2.2.2.2.2.2.2.2.1)
                              have HS18_ := (hb.cell (World.block_lt_of_cell? _ _ (hHeld.2.2.2.2.2.2.2.2.2.2.2.2.2.2.2.2.2.2.1))).trans (hHeld.2.2.2.2.2.2.2.2.2.2.2.2.2.2.2.2.2.2.1)
                              have HS19_ := (hb.cell (World.block_lt_of_cell? _ _ (hHeld.2.2.2.2.2.2.2.2.2.2.2.2.2.2.2.2.2.2.2.1))).trans (hHeld.2.2.2.2.2.2.2.2.2.2.2.2.2.2.2.2.2.2.2.1)
                              have HS20_ := (hb.cell (World.block_lt_of_cell? _ _ (hHeld.2.2.2.2.2.2.2.2.2.2.2.2.2.2.2.2.2.2.2.2.1))).trans (hHeld.2.2.2.2.2.2.2.2.2.2.2.2.2.2.2.2.2.2.2.2.1)
                              have HS21_ := (hb.cell (World.block_lt_of_cell? _ _ (hHeld.2.2.2.2.2.2.2.2.2.2.2.2.2.2.2.2.2.2.2.2.2.1))).trans (hHeld.2.2.2.2.2.2.2.2.2.2.2.2.2.2.2.2.2.2.2.2.2.1)
                              have HS22_ := (hb.cell (World.block_lt_of_cell? _ _ (hHeld.2.2.2.2.2.2.2.2.2.2.2.2.2.2.2.2.2.2.2.2.2.2.1))).trans (hHeld.2.2.2.2.2.2.2.2.2.2.2.2.2.2.2.2.2.2.2.2.2.2.1)
                              have HS23_ := (hb.cell (World.block_lt_of_cell? _ _ (hHeld.2.2.2.2.2.2.2.2.2.2.2.2.2.2.2.2.2.2.2.2.2.2.2.1))).trans (hHeld.2.2.2.2.2.2.2.2.2.2.2.2.2.2.2.2.2.2.2.2.2.2.2.1)
                              have HS24_ := (hb.cell (World.block_lt_of_cell? _ _ (hHeld.2.2.2.2.2.2.2.2.2.2.2.2.2.2.2.2.2.2.2.2.2.2.2.2.1))).trans (hHeld.2.2.2.2.2.2.2.2.2.2.2.2.2.2.2.2.2.2.2.2.2.2.2.2.1)
                              have HS25_ := (hb.cell (World.block_lt_of_cell? _ _ (hHeld.2.2.2.2.2.2.2.2.2.2.2.2.2.2.2.2.2.2.2.2.2.2.2.2.2.1))).trans (hHeld.2.2.2.2.2.2.2.2.2.2.2.2.2.2.2.2.2.2.2.2.2.2.2.2.2.1)
                              have HS26_ := (hb.cell (World.block_lt_of_cell? _ _ (hHeld.2.2.2.2.2.2.2.2.2.2.2.2.2.2.2.2.2.2.2.2.2.2.2.2.2.2.1))).trans (hHeld.2.2.2.2.2.2.2.2.2.2.2.2.2.2.2.2.2.2.2.2.2.2.2.2.2.2.1)
                              have HS27_ := (hb.cell (World.block_lt_of_cell? _ _ (hHeld.2.2.2.2.2.2.2.2.2.2.2.2.2.2.2.2.2.2.2.2.2.2.2.2.2.2.2.1))).trans (hHeld.2.2.2.2.2.2.2.2.2.2.2.2.2.2.2.2.2.2.2.2.2.2.2.2.2.2.2.1)
                              have HS28_ := (hb.cell (World.block_lt_of_cell? _ _ (hHeld.2.2.2.2.2.2.2.2.2.2.2.2.2.2.2.2.2.2.2.2.2.2.2.2.2.2.2.2.1))).trans (hHeld.2.2.2.2.2.2.2.2.2.2.2.2.2.2.2.2.2.2.2.2.2.2.2.2.2.2.2.2.1)
                              have HS29_ := (hb.cell (World.block_lt_of_cell? _ _ (hHeld.2.2.2.2.2.2.2.2.2.2.2.2.2.2.2.2.2.2.2.2.2.2.2.2.2.2.2.2.2.1))).trans (hHeld.2.2.2.2.2.2.2.2.2.2.2.2.2.2.2.2.2.2.2.2.2.2.2.2.2.2.2.2.2.1)
                              have HS30_ := (hb.cell (World.block_lt_of_cell? _ _ (hHeld.2.2.2.2.2.2.2.2.2.2.2.2.2.2.2.2.2.2.2.2.2.2.2.2.2.2.2.2.2.2.1))).trans (hHeld.2.2.2.2.2.2.2.2.2.2.2.2.2.2.2.2.2.2.2.2.2.2.2.2.2.2.2.2.2.2.1)
                              have HS31_ := (hb.cell (World.block_lt_of_cell? _ _ (hHeld.2.2.2.2.2.2.2.2.2.2.2.2.2.2.2.2.2.2.2.2.2.2.2.2.2.2.2.2.2.2.2))).trans (hHeld.2.2.2.2.2.2.2.2.2.2.2.2.2.2.2.2.2.2.2.2.2.2.2.2.2.2.2.2.2.2.2)
                              refine ⟨_, rfl, ?_⟩
                              have n0_ := Aside0.mk (Kd.R_below (by (with_reducible repeat (first | apply Kd.R_alloc | apply Kd.R_drewN | apply Kd.R_drew)); exact HO_3.out) hb)
                              have n1_ := Aside0.mk (below_step (by repeat (first | (with_reducible first | exact HB.out | apply below_alloc | apply pw_below_drewN | apply below_drew1) | exact HB.out)) hb)
                              clear HO_3
                              clear HB
                              have HO_3 := n0_
                              have HB := n1_
                              clear n0_ n1_
                              (try clear hb)
                              (try clear hb2)
                              (try clear hk)
                              (try clear hi)
                              refine hK.out _ _ ⟨HS0_, HS1_, HS2_, HS3_, HS4_, HS5_, HS6_, HS7_, HS8_, HS9_, HS10_, HS11_, HS12_, HS13_, HS14_, HS15_, HS16_, HS17_, HS18_, HS19_, HS20_, HS21_, HS22_, HS23_, HS24_, HS25_, HS26_, HS27_, HS28_, HS29_, HS30_, HS31_⟩ (fun hHeld => ?_)
                              clear hK K
                              refine norm_ (a' := ?_) ?_ ?_
                              rotate_left
                              · show Act.put _ (some 46) _ = _
                                simp only [Act.put, List.setIfInBounds_toArray, List.set_cons_zero, List.set_cons_succ, i64_w, i32_w]
                                rfl
                              refine pure_ (i := 21) (N := some 47) (v := ?_) (a' := ?_) #[true, true, true, true, true, true, true, true, true, true, true, true, true, true, true, true, true, true, true, true, true, true, false] rfl rfl (any_of HT_.out (by kernel_rfl)) (fun _ _ _ h => h) (Or.inl ⟨by rfl, ?_⟩) ?_ ?_
                              rotate_left
                              · intro w'
                                go_simp
                                with_reducible rfl
                              rotate_left
                              · simp only [Act.put, List.setIfInBounds_toArray, List.set_cons_zero, List.set_cons_succ, i64_w, i32_w]
                                rfl
                              refine pure_ (i := 22) (N := some 48) (v := ?_) (a' := ?_) #[true, true, true, true, true, true, true, true, true, true, true, true, true, true, true, true, true, true, true, true, true, true, true] rfl rfl (any_of HT_.out (by kernel_rfl)) (fun _ _ _ h => h) (Or.inl ⟨by rfl, ?_⟩) ?_ ?_
                              rotate_left
                              · intro w'
                                go_simp
                                with_reducible rfl
                              rotate_left
                              · simp only [Act.put, List.setIfInBounds_toArray, List.set_cons_zero, List.set_cons_succ, i64_w, i32_w]
                                rfl
                              refine done_ (done_of HT_.out (by kernel_rfl)) ?_
                              try go_wp2
                              go_ret
                              exact ⟨by first | rfl | (simp [errW_none, errW_some] <;> rfl) | (simp [*, errW_none, errW_some] <;> rfl), by repeat (first | (with_reducible first | exact HB.out | apply below_alloc | apply pw_below_drewN | apply below_drew1) | exact HB.out)⟩
                        · rw [if_neg c15] at H
                          exact absurd H (by simp)
                      · rw [if_neg c14] at H
                        exact absurd H (by simp)
                    · rw [if_neg c13] at H
                      exact absurd H (by simp)
                  · rw [if_neg c12] at H
                    exact absurd H (by simp)
                · rw [if_neg c11] at H
                  have c11b0 : decide (x5_2 < x4_1) = false := decide_eq_false c11
                  clear c11
                  have H' := Aside0.mk H
                  clear H
                  go_wp2
                  go_roundg k2
                  case measure => have := HK1.out; have := HK2.out; omega
                  case rel => exact ⟨(wrap64 (x4_1 + 1)), (by first | rfl | (simp; done) | (simp [*]; done)), H', ⟨by have := HK1.out; have := HK2.out; omega⟩, ⟨by (with_reducible repeat (first | apply Kd.R_alloc | apply Kd.R_drewN | apply Kd.R_drew)); exact HO_3.out⟩, ⟨by repeat (first | (with_reducible first | exact HB.out | apply below_alloc | apply pw_below_drewN | apply below_drew1) | exact HB.out)⟩⟩
          · rw [if_neg c9] at H
            have c9b0 : decide (x4_1 < (t466.length : Int)) = false := decide_eq_false c9
            clear c9
            have H' := Aside0.mk H
            clear H
            obtain ⟨Ao24, co24, eo24⟩ := Kd.R_slice HO_3.out
            subst eo24
            go_wp2
            go_loopg [6, 7] k1 (fun kq v6 v7 w' => ∃ (x6_2 : List (S26)) (x7_2 : Int), v7 = .int .i64 x7_2 ∧ Aside0 (butterylaw09_ItemOrder.l2 kq l0 t466 x6_2 x7_2 = some r) ∧ Aside0 (kq ≤ k1) ∧ Aside0 (Kd.R k26 26 w' w.heap.size (fun k_ => some k_ ≠ (v6 : Value).ownBlock) (.slice Ao24 t466.length co24) t466) ∧ Aside0 (Kd.R k26 26 w' w.heap.size (fun k_ => some k_ ≠ ((.slice Ao24 t466.length co24) : Value).ownBlock) v6 x6_2) ∧ Aside0 (Below w.heap.size w w'))
            case atStart => exact ⟨(([] : List (S26))), (wrap64 ((l0.length : Int) - 1)), (by first | rfl | (simp; done) | (simp [*]; done)), H', ⟨Nat.le_refl _⟩, ⟨by (with_reducible repeat (first | apply Kd.R_alloc | apply Kd.R_drewN | apply Kd.R_drew)); exact Kd.R_mono HO_3.out (fun _ hk => (by simp [Value.ownBlock]))⟩, ⟨by first | exact Kd.R_nil _ _ _ _ _ | exact Kd.N_nil _ _ _ _ _ | exact Kd.V_nil _ _ _ _ _ | exact Kd.Q_nil _ _ _ _ _ | exact Kd.S_nil _ _ _ _ _⟩, ⟨by repeat (first | (with_reducible first | exact HB.out | apply below_alloc | apply pw_below_drewN | apply below_drew1) | exact HB.out)⟩⟩
            case round =>
              clear H'
              try clear c1
              try clear p2
              try clear c3
              try clear p4
              try clear q4
              try clear hx4
              try clear p6
              try clear c9
              try clear c9b0
              try clear c11
              try clear c11b0
              try clear c12
              try clear c13
              try clear c14
              try clear c15
              try clear c16
              try clear c16b0
              try clear c16b1
              try clear c16b2
              try clear c19
              try clear hx469_0
              try clear hx469_1
              try clear hx469_2
              try clear hx469_3
              try clear hx469_4
              try clear hx469_5
              try clear hx469_6
              try clear hx469_7
              try clear hx470_0
              try clear hx470_1
              try clear hx470_2
              try clear hx470_3
              try clear hx470_4
              try clear hx470_5
              try clear hx470_6
              try clear hx470_7
              try clear hx471_0
              try clear hx471_1
              try clear hx471_2
              try clear hx471_3
              try clear hx471_4
              try clear hx471_5
              try clear hx471_6
              try clear hx471_7
              try clear hx472_0
              try clear hx472_1
              try clear hx472_2
              try clear hx472_3
              try clear hx472_4
              try clear hx472_5
              try clear hx472_6
              try clear hx472_7
              try clear p469
              try clear p470
              try clear p471
              try clear p472
              try clear q469
              try clear q470
              try clear q471
              try clear q472
              obtain ⟨x6_2, x7_2, rfl, HA, HK2, HO_3, HO_6, HB⟩ := hrel
              cases gk with
              | zero => exact absurd HA.out (by simp [butterylaw09_ItemOrder.l2])
              | succ k2 =>
                have H := HA.out
                clear HA
                simp only [butterylaw09_ItemOrder.l2] at H
                by_cases c25 : x7_2 ≥ 0
                · rw [if_pos c25] at H
                  have c25b0 : decide (0 ≤ x7_2) = true := decide_eq_true c25
                  clear c25
                  by_cases c26 : 0 ≤ x7_2
                  · rw [if_pos c26] at H
                    have c26b0 : decide (0 ≤ x7_2) = true := decide_eq_true c26
                    clear c26
                    by_cases c27 : x7_2 < (l0.length : Int)
                    · rw [if_pos c27] at H
                      have c27b0 : decide (x7_2 < (l0.length : Int)) = true := decide_eq_true c27
                      clear c27
                      by_cases c28 : x6_2.length < 1599289640401
                      · rw [if_pos c28] at H
                        have LMc28 := Aside0.mk c28
                        clear c28
                        obtain ⟨y475, hy475⟩ : ∃ y_ : List (S26), y_ = (x6_2 ++ [(⟨(rd_T26 l0 x7_2).f0, (rd_T26 l0 x7_2).f1, (rd_T26 l0 x7_2).f2, (rd_T26 l0 x7_2).f3, (rd_T26 l0 x7_2).f4, (⟨(rd_T26 l0 x7_2).f5.f0, (rd_T26 l0 x7_2).f5.f1, (rd_T26 l0 x7_2).f5.f2⟩ : S24)⟩ : S26)]) := ⟨_, rfl⟩
                        replace H : (butterylaw09_ItemOrder.l2 k2 l0 t466 y475 (wrap64 (x7_2 - 1))) = some r := by first | (rw [hy475]; with_reducible exact H) | (have H2_ := (Option.bind_some _ _).symm.trans H; rw [hy475]; with_reducible exact H2_) | (have H2_ := (Option.bind_some _ _).symm.trans H; with_reducible exact H2_) | with_reducible exact H | (rw [hy475]; exact H) | exact H
                        have Ny475 := Aside0.mk hy475
                        clear hy475
                        have H' := Aside0.mk H
                        clear H
                        have p474 : 0 ≤ (x7_2 : Int) := of_decide_eq_true (by first | (with_reducible assumption) | assumption)
                        have q474 : x7_2 < (l0.length : Int) := of_decide_eq_true (by first | (with_reducible assumption) | assumption)
                        obtain ⟨ad474, e474, hx474_0, hx474_1, hx474_2, hx474_3, hx474_4, hx474_5, hx474_6, hx474_7⟩ := at_T26 HR0.out x7_2 p474 q474
                        cases e474
                        replace hx474_0 := (HB.out.cell (World.block_lt_of_cell? w _ hx474_0)).trans hx474_0
                        replace hx474_1 := (HB.out.cell (World.block_lt_of_cell? w _ hx474_1)).trans hx474_1
                        replace hx474_2 := (HB.out.cell (World.block_lt_of_cell? w _ hx474_2)).trans hx474_2
                        replace hx474_3 := (HB.out.cell (World.block_lt_of_cell? w _ hx474_3)).trans hx474_3
                        replace hx474_4 := (HB.out.cell (World.block_lt_of_cell? w _ hx474_4)).trans hx474_4
                        replace hx474_5 := (HB.out.cell (World.block_lt_of_cell? w _ hx474_5)).trans hx474_5
                        replace hx474_6 := (HB.out.cell (World.block_lt_of_cell? w _ hx474_6)).trans hx474_6
                        replace hx474_7 := (HB.out.cell (World.block_lt_of_cell? w _ hx474_7)).trans hx474_7
                        replace p474 := eq_true p474
                        replace q474 := eq_true q474
                        go_wp2_with (first | ((with_reducible refine gate_builtin (b := .append) (xs := #[.tmp 56, .tmp 61]) rfl ?_); at_builtin; refine Kd.R_append k26 (w0 := w) w.heap.size rfl (.tmp 56) (.tmp 61) 22 26 (.agg #[(.string ⟨#[]⟩), (.string ⟨#[]⟩), (.int .i64 0), (.string ⟨#[]⟩), (.int .i64 0), (.int .i64 0), (.int .i64 0), (.int .i64 0)]) 88 rfl Try.underlying22 info26 rfl (by decide) (by omega) u6 x6_2 (⟨(rd_T26 l0 x7_2).f0, (rd_T26 l0 x7_2).f1, (rd_T26 l0 x7_2).f2, (rd_T26 l0 x7_2).f3, (rd_T26 l0 x7_2).f4, (⟨(rd_T26 l0 x7_2).f5.f0, (rd_T26 l0 x7_2).f5.f1, (rd_T26 l0 x7_2).f5.f2⟩ : S24)⟩ : S26) [.string ((rd_T26 l0 x7_2).f0), .string ((rd_T26 l0 x7_2).f1), .int .i64 ((rd_T26 l0 x7_2).f2), .string ((rd_T26 l0 x7_2).f3), .int .i64 ((rd_T26 l0 x7_2).f4), .int .i64 ((rd_T26 l0 x7_2).f5.f0), .int .i64 ((rd_T26 l0 x7_2).f5.f1), .int .i64 ((rd_T26 l0 x7_2).f5.f2)] (fun k_ => some k_ ≠ (.slice Ao24 t466.length co24 : Value).ownBlock) (fun _ => False) rfl rfl ?aP (fun _ hk => hk.elim) ?aF ?aO ?aB ?aS ?aL ?_; (case aP => exact k26_mkM _ _ _ (⟨(rd_T26 l0 x7_2).f0, (rd_T26 l0 x7_2).f1, (rd_T26 l0 x7_2).f2, (rd_T26 l0 x7_2).f3, (rd_T26 l0 x7_2).f4, (⟨(rd_T26 l0 x7_2).f5.f0, (rd_T26 l0 x7_2).f5.f1, (rd_T26 l0 x7_2).f5.f2⟩ : S24)⟩ : S26)); (case aB => exact (by repeat (first | (with_reducible first | exact HB.out | apply below_alloc | apply pw_below_drewN | apply below_drew1) | exact HB.out))); (case aF => exact (fun k_ hk => Kd.fresh' (Kd.R_lt (by (with_reducible repeat (first | apply Kd.R_alloc | apply Kd.R_drewN | apply Kd.R_drew)); exact HO_3.out)) k_ hk)); (case aO => exact (by (with_reducible repeat (first | apply Kd.R_alloc | apply Kd.R_drewN | apply Kd.R_drew)); exact HO_6.out)); (case aS => exact (below_size (by repeat (first | (with_reducible first | exact HB.out | apply below_alloc | apply pw_below_drewN | apply below_drew1) | exact HB.out)))); (case aL => have := LMc28.out; omega); intro v476 w29 ho hb hg hat; rw [← Ny475.out] at ho; have n0_ := Aside0.mk (Kd.R_after (ok := (fun _ => True)) (by (with_reducible repeat (first | apply Kd.R_alloc | apply Kd.R_drewN | apply Kd.R_drew)); exact Kd.R_mono HO_3.out (fun _ hk => ⟨trivial, hk⟩)) hg hat); have n1_ := Aside0.mk (hb); have n2_ := Aside0.mk (ho); clear HO_3; clear HB; clear HO_6; have HO_3 := n0_; have HB := n1_; have HO477 := n2_; clear n0_ n1_ n2_; clear ho hb hg hat))
                        go_roundg k2
                        case measure => have := HK1.out; have := HK2.out; omega
                        case rel => exact ⟨(y475), (wrap64 (x7_2 - 1)), (by first | rfl | (simp; done) | (simp [*]; done)), H', ⟨by have := HK1.out; have := HK2.out; omega⟩, ⟨by (with_reducible repeat (first | apply Kd.R_alloc | apply Kd.R_drewN | apply Kd.R_drew)); exact Kd.R_mono HO_3.out (fun _ hk => hk.2)⟩, ⟨by (with_reducible repeat (first | apply Kd.R_alloc | apply Kd.R_drewN | apply Kd.R_drew)); exact HO477.out⟩, ⟨by repeat (first | (with_reducible first | exact HB.out | apply below_alloc | apply pw_below_drewN | apply below_drew1) | exact HB.out)⟩⟩
                      · rw [if_neg c28] at H
                        exact absurd H (by simp)
                    · rw [if_neg c27] at H
                      exact absurd H (by simp)
                  · rw [if_neg c26] at H
                    exact absurd H (by simp)
                · rw [if_neg c25] at H
                  have c25b0 : decide (0 ≤ x7_2) = false := decide_eq_false c25
                  clear c25
                  replace H := Option.bind_eq_some_iff.mp H
                  obtain ⟨t478, A300, H⟩ := H
                  replace H : ((butteryref09_Same.f k2 t478 t466).bind fun t481 => (if t481 = true then ((item_Norm.f x6_2).bind fun t482 => ((butteryref09_Same.f k2 t482 t466).bind fun t485 => (some t485))) else (some false))) = some r := H
                  have A30 := Aside0.mk A300
                  clear A300
                  replace H := Option.bind_eq_some_iff.mp H
                  obtain ⟨t481, A310, H⟩ := H
                  replace H : (if t481 = true then ((item_Norm.f x6_2).bind fun t482 => ((butteryref09_Same.f k2 t482 t466).bind fun t485 => (some t485))) else (some false)) = some r := H
                  have A31 := Aside0.mk A310
                  clear A310
                  by_cases c32 : t481 = true
                  · subst c32
                    have H1 : ((item_Norm.f x6_2).bind fun t482 => ((butteryref09_Same.f k2 t482 t466).bind fun t485 => (some t485))) = some r := by rw [if_pos rfl] at H; exact H
                    clear H
                    have H := H1
                    clear H1
                    replace H := Option.bind_eq_some_iff.mp H
                    obtain ⟨t482, A330, H⟩ := H
                    replace H : ((butteryref09_Same.f k2 t482 t466).bind fun t485 => (some t485)) = some r := H
                    have A33 := Aside0.mk A330
                    clear A330
                    replace H := Option.bind_eq_some_iff.mp H
                    obtain ⟨t485, A340, H⟩ := H
                    replace H : (some t485) = some r := H
                    have A34 := Aside0.mk A340
                    clear A340
                    obtain rfl := Option.some.inj H
                    go_wp2_with (first | ((with_reducible refine gate_callee (f := 36) rfl ?_); refine goesL_ (some 64) rfl rfl Try.func36 (by kernel_rfl) rfl #[.slice Ao24 t466.length co24] rfl (by (try simp only [List.map_toArray, List.map_cons, List.map_nil]); first | done | rfl | (simp only [List.length_drop, List.length_take]; rfl)) ?_; (with_reducible refine (item_Norm.calls _ _ t466 t478 _ ?side1 ?side2 A30.out).mono ?_); (case side1 => repeat (first | exact (Kd.R_reads' HO_3.out).2.2 | (with_reducible refine Kd.C_alloc ?_ _) | (with_reducible refine Kd.C_drewN ?_ _) | (with_reducible refine Kd.C_drew ?_))); (case side2 => exact (Kd.R_reads' HO_3.out).2.1); rintro e w35 ⟨v479, rfl, ho0, hb⟩; refine ⟨_, rfl, ?_⟩; have n0_ := Aside0.mk (Kd.R_elder' (by (with_reducible repeat (first | apply Kd.R_alloc | apply Kd.R_drewN | apply Kd.R_drew)); exact HO_3.out) (Kd.R_base ho0) hb); have n1_ := Aside0.mk (Kd.R_elder' (by (with_reducible repeat (first | apply Kd.R_alloc | apply Kd.R_drewN | apply Kd.R_drew)); exact HO_6.out) (Kd.R_base ho0) hb); have n2_ := Aside0.mk (Kd.R_lower (Kd.R_new' (Kd.R_new' ho0 (Kd.R_lt (by (with_reducible repeat (first | apply Kd.R_alloc | apply Kd.R_drewN | apply Kd.R_drew)); exact HO_3.out))) (Kd.R_lt (by (with_reducible repeat (first | apply Kd.R_alloc | apply Kd.R_drewN | apply Kd.R_drew)); exact HO_6.out))) (below_size (by repeat (first | (with_reducible first | exact HB.out | apply below_alloc | apply pw_below_drewN | apply below_drew1) | exact HB.out)))); have n3_ := Aside0.mk (below_step (by repeat (first | (with_reducible first | exact HB.out | apply below_alloc | apply pw_below_drewN | apply below_drew1) | exact HB.out)) hb); clear HO_3; clear HO_6; clear HB; have HO_3 := n0_; have HO_6 := n1_; have HO480 := n2_; have HB := n3_; clear n0_ n1_ n2_ n3_; (try clear hb); (try clear hb2); (try clear hk); (try clear hi); (try clear ho0); obtain ⟨Ao36, co36, eo36⟩ := Kd.R_slice HO480.out; subst eo36) | ((with_reducible refine gate_callee (f := 29) rfl ?_); refine goesL_ (some 66) rfl rfl Try.func29 (by kernel_rfl) rfl #[.slice Ao36 t478.length co36, .slice Ao24 t466.length co24] rfl (by (try simp only [List.map_toArray, List.map_cons, List.map_nil]); first | done | rfl | (simp only [List.length_drop, List.length_take]; rfl)) ?_; (with_reducible refine (butteryref09_Same.calls k2 _ _ t478 _ _ t466 true _ ?side1 ?side2 ?side3 ?side4 A31.out).mono ?_); (case side1 => repeat (first | exact (Kd.R_reads' HO480.out).2.2 | (with_reducible refine Kd.C_alloc ?_ _) | (with_reducible refine Kd.C_drewN ?_ _) | (with_reducible refine Kd.C_drew ?_))); (case side2 => exact (Kd.R_reads' HO480.out).2.1); (case side3 => repeat (first | exact (Kd.R_reads' HO_3.out).2.2 | (with_reducible refine Kd.C_alloc ?_ _) | (with_reducible refine Kd.C_drewN ?_ _) | (with_reducible refine Kd.C_drew ?_))); (case side4 => exact (Kd.R_reads' HO_3.out).2.1); rintro e w' ⟨rfl, ⟨nd, rfl⟩⟩; refine ⟨_, rfl, ?_⟩; obtain ⟨Ao37, co37, eo37⟩ := Kd.R_slice HO_6.out; subst eo37) | (go_at_call 36; (with_reducible refine (item_Norm.calls _ _ x6_2 t482 _ ?side1 ?side2 A33.out).mono ?_); (case side1 => repeat (first | exact (Kd.R_reads' HO_6.out).2.2 | (with_reducible refine Kd.C_alloc ?_ _) | (with_reducible refine Kd.C_drewN ?_ _) | (with_reducible refine Kd.C_drew ?_))); (case side2 => exact (Kd.R_reads' HO_6.out).2.1); rintro e w38 ⟨v483, rfl, ho0, hb⟩; have n0_ := Aside0.mk (Kd.R_elder' (by (with_reducible repeat (first | apply Kd.R_alloc | apply Kd.R_drewN | apply Kd.R_drew)); exact HO_3.out) (Kd.R_base ho0) hb); have n1_ := Aside0.mk (Kd.R_elder' (by (with_reducible repeat (first | apply Kd.R_alloc | apply Kd.R_drewN | apply Kd.R_drew)); exact HO_6.out) (Kd.R_base ho0) hb); have n2_ := Aside0.mk (Kd.R_elder' (by (with_reducible repeat (first | apply Kd.R_alloc | apply Kd.R_drewN | apply Kd.R_drew)); exact HO480.out) (Kd.R_base ho0) hb); have n3_ := Aside0.mk (Kd.R_lower (Kd.R_new' (Kd.R_new' (Kd.R_new' ho0 (Kd.R_lt (by (with_reducible repeat (first | apply Kd.R_alloc | apply Kd.R_drewN | apply Kd.R_drew)); exact HO_3.out))) (Kd.R_lt (by (with_reducible repeat (first | apply Kd.R_alloc | apply Kd.R_drewN | apply Kd.R_drew)); exact HO_6.out))) (Kd.R_lt (by (with_reducible repeat (first | apply Kd.R_alloc | apply Kd.R_drewN | apply Kd.R_drew)); exact HO480.out))) (below_size (by repeat (first | (with_reducible first | exact HB.out | apply below_alloc | apply pw_below_drewN | apply below_drew1) | exact HB.out)))); have n4_ := Aside0.mk (below_step (by repeat (first | (with_reducible first | exact HB.out | apply below_alloc | apply pw_below_drewN | apply below_drew1) | exact HB.out)) hb); clear HO_3; clear HO_6; clear HO480; clear HB; have HO_3 := n0_; have HO_6 := n1_; have HO480 := n2_; have HO484 := n3_; have HB := n4_; clear n0_ n1_ n2_ n3_ n4_; (try clear hb); (try clear hb2); (try clear hk); (try clear hi); (try clear ho0); obtain ⟨Ao39, co39, eo39⟩ := Kd.R_slice HO484.out; subst eo39) | (go_at_call 29; (with_reducible refine (butteryref09_Same.calls k2 _ _ t482 _ _ t466 t485 _ ?side1 ?side2 ?side3 ?side4 A34.out).mono ?_); (case side1 => repeat (first | exact (Kd.R_reads' HO484.out).2.2 | (with_reducible refine Kd.C_alloc ?_ _) | (with_reducible refine Kd.C_drewN ?_ _) | (with_reducible refine Kd.C_drew ?_))); (case side2 => exact (Kd.R_reads' HO484.out).2.1); (case side3 => repeat (first | exact (Kd.R_reads' HO_3.out).2.2 | (with_reducible refine Kd.C_alloc ?_ _) | (with_reducible refine Kd.C_drewN ?_ _) | (with_reducible refine Kd.C_drew ?_))); (case side4 => exact (Kd.R_reads' HO_3.out).2.1); rintro e w' ⟨rfl, ⟨nd, rfl⟩⟩))
                    go_ret
                    exact ⟨by first | rfl | (simp [errW_none, errW_some] <;> rfl) | (simp [*, errW_none, errW_some] <;> rfl), by repeat (first | (with_reducible first | exact HB.out | apply below_alloc | apply pw_below_drewN | apply below_drew1) | exact HB.out)⟩
                  · replace c32 := Bool.eq_false_iff.mpr c32
                    subst c32
                    have H1 : (some false) = some r := by rw [if_neg (show ¬ (false = true) by decide)] at H; exact H
                    clear H
                    have H := H1
                    clear H1
                    obtain rfl := Option.some.inj H
                    go_wp2_with (first | ((with_reducible refine gate_callee (f := 36) rfl ?_); refine goesL_ (some 64) rfl rfl Try.func36 (by kernel_rfl) rfl #[.slice Ao24 t466.length co24] rfl (by (try simp only [List.map_toArray, List.map_cons, List.map_nil]); first | done | rfl | (simp only [List.length_drop, List.length_take]; rfl)) ?_; (with_reducible refine (item_Norm.calls _ _ t466 t478 _ ?side1 ?side2 A30.out).mono ?_); (case side1 => repeat (first | exact (Kd.R_reads' HO_3.out).2.2 | (with_reducible refine Kd.C_alloc ?_ _) | (with_reducible refine Kd.C_drewN ?_ _) | (with_reducible refine Kd.C_drew ?_))); (case side2 => exact (Kd.R_reads' HO_3.out).2.1); rintro e w40 ⟨v479, rfl, ho0, hb⟩; refine ⟨_, rfl, ?_⟩; have n0_ := Aside0.mk (Kd.R_elder' (by (with_reducible repeat (first | apply Kd.R_alloc | apply Kd.R_drewN | apply Kd.R_drew)); exact HO_3.out) (Kd.R_base ho0) hb); have n1_ := Aside0.mk (Kd.R_elder' (by (with_reducible repeat (first | apply Kd.R_alloc | apply Kd.R_drewN | apply Kd.R_drew)); exact HO_6.out) (Kd.R_base ho0) hb); have n2_ := Aside0.mk (Kd.R_lower (Kd.R_new' (Kd.R_new' ho0 (Kd.R_lt (by (with_reducible repeat (first | apply Kd.R_alloc | apply Kd.R_drewN | apply Kd.R_drew)); exact HO_3.out))) (Kd.R_lt (by (with_reducible repeat (first | apply Kd.R_alloc | apply Kd.R_drewN | apply Kd.R_drew)); exact HO_6.out))) (below_size (by repeat (first | (with_reducible first | exact HB.out | apply below_alloc | apply pw_below_drewN | apply below_drew1) | exact HB.out)))); have n3_ := Aside0.mk (below_step (by repeat (first | (with_reducible first | exact HB.out | apply below_alloc | apply pw_below_drewN | apply below_drew1) | exact HB.out)) hb); clear HO_3; clear HO_6; clear HB; have HO_3 := n0_; have HO_6 := n1_; have HO480 := n2_; have HB := n3_; clear n0_ n1_ n2_ n3_; (try clear hb); (try clear hb2); (try clear hk); (try clear hi); (try clear ho0); obtain ⟨Ao41, co41, eo41⟩ := Kd.R_slice HO480.out; subst eo41) | ((with_reducible refine gate_callee (f := 29) rfl ?_); refine goesL_ (some 66) rfl rfl Try.func29 (by kernel_rfl) rfl #[.slice Ao41 t478.length co41, .slice Ao24 t466.length co24] rfl (by (try simp only [List.map_toArray, List.map_cons, List.map_nil]); first | done | rfl | (simp only [List.length_drop, List.length_take]; rfl)) ?_; (with_reducible refine (butteryref09_Same.calls k2 _ _ t478 _ _ t466 false _ ?side1 ?side2 ?side3 ?side4 A31.out).mono ?_); (case side1 => repeat (first | exact (Kd.R_reads' HO480.out).2.2 | (with_reducible refine Kd.C_alloc ?_ _) | (with_reducible refine Kd.C_drewN ?_ _) | (with_reducible refine Kd.C_drew ?_))); (case side2 => exact (Kd.R_reads' HO480.out).2.1); (case side3 => repeat (first | exact (Kd.R_reads' HO_3.out).2.2 | (with_reducible refine Kd.C_alloc ?_ _) | (with_reducible refine Kd.C_drewN ?_ _) | (with_reducible refine Kd.C_drew ?_))); (case side4 => exact (Kd.R_reads' HO_3.out).2.1); rintro e w' ⟨rfl, ⟨nd, rfl⟩⟩; refine ⟨_, rfl, ?_⟩))
                    go_ret
                    exact ⟨by first | rfl | (simp [errW_none, errW_some] <;> rfl) | (simp [*, errW_none, errW_some] <;> rfl), by repeat (first | (with_reducible first | exact HB.out | apply below_alloc | apply pw_below_drewN | apply below_drew1) | exact HB.out)⟩
    · replace c5 := Bool.eq_false_iff.mpr c5
      subst c5
      have H1 : (some true) = some r := by rw [if_neg (show ¬ (false = true) by decide)] at H; exact H
      clear H
      have H := H1
      clear H1
      obtain rfl := Option.some.inj H
      go_enter Try.func8, Try.ntmps8
      go_wp2_with (first | ((with_reducible refine gate_callee (f := 35) rfl ?_); refine goesL_ (some 8) rfl rfl Try.func35 (by kernel_rfl) rfl #[] rfl (by (try simp only [List.map_toArray, List.map_cons, List.map_nil]); first | done | rfl | (simp only [List.length_drop, List.length_take]; rfl)) ?_; (with_reducible refine (butterylaw09_awake.calls k  true _ A2.out).mono ?_); rintro e w42 ⟨rfl, hb⟩; refine ⟨_, rfl, ?_⟩; have n0_ := Aside0.mk (below_step (by repeat (first | (with_reducible first | exact HB.out | apply below_alloc | apply pw_below_drewN | apply below_drew1) | exact HB.out)) hb); clear HB; have HB := n0_; clear n0_; (try clear hb); (try clear hb2); (try clear hk); (try clear hi)) | ((with_reducible refine gate_callee (f := 17) rfl ?_); refine goesL_ (some 11) rfl rfl Try.func17 (by kernel_rfl) rfl #[.slice A0 l0.length c0] rfl (by (try simp only [List.map_toArray, List.map_cons, List.map_nil]); first | done | rfl | (simp only [List.length_drop, List.length_take]; rfl)) ?_; (with_reducible refine (butteryref09_Short.calls k _ _ l0 false _ ?side1 ?side2 A4.out).mono ?_); (case side1 => repeat (first | exact (Kd.C_below HR0.out HB.out) | (with_reducible refine Kd.C_alloc ?_ _) | (with_reducible refine Kd.C_drewN ?_ _) | (with_reducible refine Kd.C_drew ?_))); (case side2 => exact HC0.out); rintro e w' ⟨rfl, ⟨nd, rfl⟩⟩; refine ⟨_, rfl, ?_⟩))
      go_ret
      exact ⟨by first | rfl | (simp [errW_none, errW_some] <;> rfl) | (simp [*, errW_none, errW_some] <;> rfl), by repeat (first | (with_reducible first | exact HB.out | apply below_alloc | apply pw_below_drewN | apply below_drew1) | exact HB.out)⟩
  · replace c3 := Bool.eq_false_iff.mpr c3
    subst c3
    have H1 : (some false) = some r := by rw [if_neg (show ¬ (false = true) by decide)] at H; exact H
    clear H
    have H := H1
    clear H1
    obtain rfl := Option.some.inj H
    go_enter Try.func8, Try.ntmps8
    go_wp2_with (first | ((with_reducible refine gate_callee (f := 35) rfl ?_); refine goesL_ (some 8) rfl rfl Try.func35 (by kernel_rfl) rfl #[] rfl (by (try simp only [List.map_toArray, List.map_cons, List.map_nil]); first | done | rfl | (simp only [List.length_drop, List.length_take]; rfl)) ?_; (with_reducible refine (butterylaw09_awake.calls k  false _ A2.out).mono ?_); rintro e w43 ⟨rfl, hb⟩; refine ⟨_, rfl, ?_⟩; have n0_ := Aside0.mk (below_step (by repeat (first | (with_reducible first | exact HB.out | apply below_alloc | apply pw_below_drewN | apply below_drew1) | exact HB.out)) hb); clear HB; have HB := n0_; clear n0_; (try clear hb); (try clear hb2); (try clear hk); (try clear hi)))
    go_ret
    exact ⟨by first | rfl | (simp [errW_none, errW_some] <;> rfl) | (simp [*, errW_none, errW_some] <;> rfl), by repeat (first | (with_reducible first | exact HB.out | apply below_alloc | apply pw_below_drewN | apply below_drew1) | exact HB.out)⟩

end Go.Proofs.Ytciiodbkhilkmaa.F
