-- Written by wip/fx/fx.py (a program of this work, over the kit's print program) for Ytciiodbkhilkmaa; Lean checks it.
import Derived.Test.YtciiodbkhilkmaaF0
import Derived.Test.YtciiodbkhilkmaaGOnce
import Derived.Test.YtciiodbkhilkmaaGZoneA
namespace Go.Proofs.Ytciiodbkhilkmaa.F
open Go.RowKit Go.Proofs.YtciiodbkhilkmaaW.PrintWords Go.Proofs.YtciiodbkhilkmaaW.PrintLast Go.Proofs.YtciiodbkhilkmaaW.PrintMore
attribute [local go_sem] max2_int min2_int max_two min_two max_three min_three max_four min_four   -- for this text's walks alone
set_option linter.unusedVariables false
set_option linter.unusedSimpArgs false

/-! ### zone_Inter: function 39 -/
mutual
def zone_Inter.l0 : Nat → List ByteArray → List ByteArray → List ByteArray → Int → Int → Option (List ByteArray)
  | 0, _, _, _, _, _ => none
  | k + 1, x1, x5, x10, x11, x12 => if x12 < x11 then (if 0 ≤ x12 then (if x12 < (x10.length : Int) then (zone_Inter.l1 k x1 x5 (rdOf ByteArray.empty x10 x12) x10 x11 x12 x1 (x1.length : Int) 0) else (none)) else (none)) else ((zone_once.f x5).bind fun t529 => (some t529))
def zone_Inter.l1 : Nat → List ByteArray → List ByteArray → ByteArray → List ByteArray → Int → Int → List ByteArray → Int → Int → Option (List ByteArray)
  | 0, _, _, _, _, _, _, _, _, _ => none
  | k + 1, x1, x5, x7, x10, x11, x12, x16, x17, x18 => if x18 < x17 then (if 0 ≤ x18 then (if x18 < (x16.length : Int) then ((strings_HasPrefix.f x7 (rdOf ByteArray.empty x16 x18)).bind fun t534 => (if t534 = true then (if x5.length < 8796093022208 then (zone_Inter.l1 k x1 (x5 ++ [x7]) x7 x10 x11 x12 x16 x17 (wrap64 (x18 + 1))) else (none)) else ((strings_HasPrefix.f (rdOf ByteArray.empty x16 x18) x7).bind fun t538 => (if t538 = true then (if x5.length < 8796093022208 then (zone_Inter.l1 k x1 (x5 ++ [rdOf ByteArray.empty x16 x18]) x7 x10 x11 x12 x16 x17 (wrap64 (x18 + 1))) else (none)) else (zone_Inter.l1 k x1 x5 x7 x10 x11 x12 x16 x17 (wrap64 (x18 + 1))))))) else (none)) else (none)) else (zone_Inter.l0 k x1 x5 x10 x11 (wrap64 (x12 + 1)))
end
def zone_Inter.f (k : Nat) (l0 : List ByteArray) (l1 : List ByteArray) : Option (List ByteArray) := zone_Inter.l0 k l1 ([] : List ByteArray) l0 (l0.length : Int) 0
theorem zone_Inter.mono_l : ∀ k, (∀ y0 y1 y2 y3 y4, LeO (zone_Inter.l0 k y0 y1 y2 y3 y4) (zone_Inter.l0 (k + 1) y0 y1 y2 y3 y4)) ∧ (∀ y0 y1 y2 y3 y4 y5 y6 y7 y8, LeO (zone_Inter.l1 k y0 y1 y2 y3 y4 y5 y6 y7 y8) (zone_Inter.l1 (k + 1) y0 y1 y2 y3 y4 y5 y6 y7 y8))
  | 0 => ⟨fun _ _ _ _ _ r h => by simp [zone_Inter.l0] at h, fun _ _ _ _ _ _ _ _ _ r h => by simp [zone_Inter.l1] at h⟩
  | k + 1 => by
    obtain ⟨ih0, ih1⟩ := zone_Inter.mono_l k
    refine ⟨?_, ?_⟩
    · intro y0 y1 y2 y3 y4
      unfold zone_Inter.l0
      repeat' first
      | (with_reducible exact ih0 _ _ _ _ _)
      | (with_reducible exact ih1 _ _ _ _ _ _ _ _ _)
      | (with_reducible exact LeO.refl _)
      | (with_reducible exact LeO.none _)
      | (with_reducible refine LeO.ite ?_ ?_)
      | (with_reducible refine LeO.bind ?_ (fun _ => ?_))
      | exact ih0 _ _ _ _ _
      | exact ih1 _ _ _ _ _ _ _ _ _
      | exact LeO.none _
      | refine LeO.ite ?_ ?_
      | refine LeO.bind ?_ (fun _ => ?_)
    · intro y0 y1 y2 y3 y4 y5 y6 y7 y8
      unfold zone_Inter.l1
      repeat' first
      | (with_reducible exact ih0 _ _ _ _ _)
      | (with_reducible exact ih1 _ _ _ _ _ _ _ _ _)
      | (with_reducible exact LeO.refl _)
      | (with_reducible exact LeO.none _)
      | (with_reducible refine LeO.ite ?_ ?_)
      | (with_reducible refine LeO.bind ?_ (fun _ => ?_))
      | exact ih0 _ _ _ _ _
      | exact ih1 _ _ _ _ _ _ _ _ _
      | exact LeO.none _
      | refine LeO.ite ?_ ?_
      | refine LeO.bind ?_ (fun _ => ?_)
theorem zone_Inter.mono : ∀ a0 a1 k, LeO (zone_Inter.f k a0 a1) (zone_Inter.f (k + 1) a0 a1) := by
  intro a0 a1 k
  obtain ⟨ih0, ih1⟩ := zone_Inter.mono_l k
  unfold zone_Inter.f
  repeat' first
      | (with_reducible exact ih0 _ _ _ _ _)
      | (with_reducible exact ih1 _ _ _ _ _ _ _ _ _)
      | (with_reducible exact LeO.refl _)
      | (with_reducible exact LeO.none _)
      | (with_reducible refine LeO.ite ?_ ?_)
      | (with_reducible refine LeO.bind ?_ (fun _ => ?_))
      | exact ih0 _ _ _ _ _
      | exact ih1 _ _ _ _ _ _ _ _ _
      | exact LeO.none _
      | refine LeO.ite ?_ ?_
      | refine LeO.bind ?_ (fun _ => ?_)
set_option maxHeartbeats 8000000 in
set_option maxRecDepth 100000 in
theorem zone_Inter.calls (k : Nat) (A0 : Option Addr) (c0 : Nat) (l0 : List ByteArray) (A1 : Option Addr) (c1 : Nat) (l1 : List ByteArray) (r : List ByteArray) (w : World) (hr0 : Kd.C Kd.string w A0 l0.length l0) (hc0 : l0.length ≤ c0) (hr1 : Kd.C Kd.string w A1 l1.length l1) (hc1 : l1.length ≤ c1) (h : zone_Inter.f k l0 l1 = some r) :
    Calls Try.prog 39 #[.slice A0 l0.length c0, .slice A1 l1.length c1] w fun e w' => ∃ v0_ : Value, e = .returned (v0_) ∧ Kd.R Kd.string 9 w' w.heap.size (fun _ => True) v0_ r ∧ Below w.heap.size w w' := by
  have HR0 := Aside0.mk hr0
  have HC0 := Aside0.mk hc0
  clear hr0 hc0
  have HR1 := Aside0.mk hr1
  have HC1 := Aside0.mk hc1
  clear hr1 hc1
  have HB := Aside0.mk (Below.refl w.heap.size w)
  have H : (zone_Inter.l0 k l1 ([] : List ByteArray) l0 (l0.length : Int) 0) = some r := h
  clear h
  have H' := Aside0.mk H
  clear H
  go_enter Try.func39, Try.ntmps39
  go_wp2
  go_loopg [5, 12] k (fun kq v5 v12 w' => ∃ (x5_1 : List ByteArray) (x12_1 : Int), v12 = .int .i64 x12_1 ∧ Aside0 (zone_Inter.l0 kq l1 x5_1 l0 (l0.length : Int) x12_1 = some r) ∧ Aside0 (kq ≤ k) ∧ Aside0 (Kd.R Kd.string 9 w' w.heap.size (fun _ => True) v5 x5_1) ∧ Aside0 (Below w.heap.size w w'))
  case atStart => exact ⟨(([] : List ByteArray)), (0), (by first | rfl | (simp; done) | (simp [*]; done)), H', ⟨Nat.le_refl _⟩, ⟨by first | exact Kd.R_nil _ _ _ _ _ | exact Kd.N_nil _ _ _ _ _ | exact Kd.V_nil _ _ _ _ _ | exact Kd.Q_nil _ _ _ _ _ | exact Kd.S_nil _ _ _ _ _⟩, ⟨by repeat (first | (with_reducible first | exact HB.out | apply below_alloc | apply pw_below_drewN | apply below_drew1) | exact HB.out)⟩⟩
  case round =>
    clear H'
    try clear c1
    try clear p2
    obtain ⟨x5_1, x12_1, rfl, HA, HK1, HO_5, HB⟩ := hrel
    cases gk with
    | zero => exact absurd HA.out (by simp [zone_Inter.l0])
    | succ k1 =>
      have H := HA.out
      clear HA
      simp only [zone_Inter.l0] at H
      by_cases c3 : x12_1 < (l0.length : Int)
      · rw [if_pos c3] at H
        have c3b0 : decide (x12_1 < (l0.length : Int)) = true := decide_eq_true c3
        clear c3
        by_cases c4 : 0 ≤ x12_1
        · rw [if_pos c4] at H
          have c4b0 : decide (0 ≤ x12_1) = true := decide_eq_true c4
          clear c4
          by_cases c5 : x12_1 < (l0.length : Int)
          · rw [if_pos c5] at H
            have c5b0 : decide (x12_1 < (l0.length : Int)) = true := decide_eq_true c5
            clear c5
            have H' := Aside0.mk H
            clear H
            have p532 : 0 ≤ (x12_1 : Int) := of_decide_eq_true (by first | (with_reducible assumption) | assumption)
            have q532 : x12_1 < (l0.length : Int) := of_decide_eq_true (by first | (with_reducible assumption) | assumption)
            obtain ⟨ad532, e532, hx532_0⟩ := Kd.at_string HR0.out x12_1 p532 q532
            cases e532
            replace hx532_0 := (HB.out.cell (World.block_lt_of_cell? w _ hx532_0)).trans hx532_0
            replace p532 := eq_true p532
            replace q532 := eq_true q532
            go_wp2
            go_loopg [5, 18] k1 (fun kq v5 v18 w' => ∃ (x5_2 : List ByteArray) (x18_2 : Int), v18 = .int .i64 x18_2 ∧ Aside0 (zone_Inter.l1 kq l1 x5_2 (rdOf ByteArray.empty l0 x12_1) l0 (l0.length : Int) x12_1 l1 (l1.length : Int) x18_2 = some r) ∧ Aside0 (kq ≤ k1) ∧ Aside0 (Kd.R Kd.string 9 w' w.heap.size (fun _ => True) v5 x5_2) ∧ Aside0 (Below w.heap.size w w'))
            case atStart => exact ⟨(x5_1), (0), (by first | rfl | (simp; done) | (simp [*]; done)), H', ⟨Nat.le_refl _⟩, ⟨by (with_reducible repeat (first | apply Kd.R_alloc | apply Kd.R_drewN | apply Kd.R_drew)); exact HO_5.out⟩, ⟨by repeat (first | (with_reducible first | exact HB.out | apply below_alloc | apply pw_below_drewN | apply below_drew1) | exact HB.out)⟩⟩
            case round =>
              clear H'
              try clear c1
              try clear p2
              try clear c3
              try clear c3b0
              try clear c4
              try clear c4b0
              try clear c5
              try clear c5b0
              try clear p5
              try clear q5
              try clear hx5
              try clear hx532_0
              try clear p2
              try clear p532
              try clear q532
              obtain ⟨x5_2, x18_2, rfl, HA, HK2, HO_5, HB⟩ := hrel
              cases gk with
              | zero => exact absurd HA.out (by simp [zone_Inter.l1])
              | succ k2 =>
                have H := HA.out
                clear HA
                simp only [zone_Inter.l1] at H
                by_cases c6 : x18_2 < (l1.length : Int)
                · rw [if_pos c6] at H
                  have c6b0 : decide (x18_2 < (l1.length : Int)) = true := decide_eq_true c6
                  clear c6
                  by_cases c7 : 0 ≤ x18_2
                  · rw [if_pos c7] at H
                    have c7b0 : decide (0 ≤ x18_2) = true := decide_eq_true c7
                    clear c7
                    by_cases c8 : x18_2 < (l1.length : Int)
                    · rw [if_pos c8] at H
                      have c8b0 : decide (x18_2 < (l1.length : Int)) = true := decide_eq_true c8
                      clear c8
                      replace H := Option.bind_eq_some_iff.mp H
                      obtain ⟨t534, A90, H⟩ := H
                      replace H : (if t534 = true then (if x5_2.length < 8796093022208 then (zone_Inter.l1 k2 l1 (x5_2 ++ [(rdOf ByteArray.empty l0 x12_1)]) (rdOf ByteArray.empty l0 x12_1) l0 (l0.length : Int) x12_1 l1 (l1.length : Int) (wrap64 (x18_2 + 1))) else (none)) else ((strings_HasPrefix.f (rdOf ByteArray.empty l1 x18_2) (rdOf ByteArray.empty l0 x12_1)).bind fun t538 => (if t538 = true then (if x5_2.length < 8796093022208 then (zone_Inter.l1 k2 l1 (x5_2 ++ [rdOf ByteArray.empty l1 x18_2]) (rdOf ByteArray.empty l0 x12_1) l0 (l0.length : Int) x12_1 l1 (l1.length : Int) (wrap64 (x18_2 + 1))) else (none)) else (zone_Inter.l1 k2 l1 x5_2 (rdOf ByteArray.empty l0 x12_1) l0 (l0.length : Int) x12_1 l1 (l1.length : Int) (wrap64 (x18_2 + 1)))))) = some r := H
                      have A9 := Aside0.mk A90
                      clear A90
                      by_cases c10 : t534 = true
                      · subst c10
                        have H1 : (if x5_2.length < 8796093022208 then (zone_Inter.l1 k2 l1 (x5_2 ++ [(rdOf ByteArray.empty l0 x12_1)]) (rdOf ByteArray.empty l0 x12_1) l0 (l0.length : Int) x12_1 l1 (l1.length : Int) (wrap64 (x18_2 + 1))) else (none)) = some r := by rw [if_pos rfl] at H; exact H
                        clear H
                        have H := H1
                        clear H1
                        by_cases c11 : x5_2.length < 8796093022208
                        · rw [if_pos c11] at H
                          have LMc11 := Aside0.mk c11
                          clear c11
                          obtain ⟨y535, hy535⟩ : ∃ y_ : List ByteArray, y_ = (x5_2 ++ [(rdOf ByteArray.empty l0 x12_1)]) := ⟨_, rfl⟩
                          replace H : (zone_Inter.l1 k2 l1 y535 (rdOf ByteArray.empty l0 x12_1) l0 (l0.length : Int) x12_1 l1 (l1.length : Int) (wrap64 (x18_2 + 1))) = some r := by first | (rw [hy535]; with_reducible exact H) | (have H2_ := (Option.bind_some _ _).symm.trans H; rw [hy535]; with_reducible exact H2_) | (have H2_ := (Option.bind_some _ _).symm.trans H; with_reducible exact H2_) | with_reducible exact H | (rw [hy535]; exact H) | exact H
                          have Ny535 := Aside0.mk hy535
                          clear hy535
                          have H' := Aside0.mk H
                          clear H
                          have p533 : 0 ≤ (x18_2 : Int) := of_decide_eq_true (by first | (with_reducible assumption) | assumption)
                          have q533 : x18_2 < (l1.length : Int) := of_decide_eq_true (by first | (with_reducible assumption) | assumption)
                          obtain ⟨ad533, e533, hx533_0⟩ := Kd.at_string HR1.out x18_2 p533 q533
                          cases e533
                          replace hx533_0 := (HB.out.cell (World.block_lt_of_cell? w _ hx533_0)).trans hx533_0
                          replace p533 := eq_true p533
                          replace q533 := eq_true q533
                          go_wp2_with (first | ((with_reducible refine gate_callee (f := 69) rfl ?_); refine goesL_ (some 25) rfl rfl Try.func69 (by kernel_rfl) rfl #[.string (rdOf ByteArray.empty l0 x12_1), .string (rdOf ByteArray.empty l1 x18_2)] rfl (by (try simp only [List.map_toArray, List.map_cons, List.map_nil]); first | done | rfl | (simp only [List.length_drop, List.length_take]; rfl)) ?_; (with_reducible refine (strings_HasPrefix.calls (rdOf ByteArray.empty l0 x12_1) (rdOf ByteArray.empty l1 x18_2) true _ A9.out).mono ?_); rintro e w' ⟨rfl, ⟨nd, rfl⟩⟩; refine ⟨_, rfl, ?_⟩) | ((with_reducible refine gate_builtin (b := .append) (xs := #[.tmp 26, .tmp 28]) rfl ?_); at_builtin; refine Kd.R_append Kd.string (w0 := w) w.heap.size rfl (.tmp 26) (.tmp 28) 29 9 (.string ⟨#[]⟩) 16 rfl Try.underlying29 info9 rfl (by decide) (by omega) u5 x5_2 (rdOf ByteArray.empty l0 x12_1) [.string (rdOf ByteArray.empty l0 x12_1)] (fun _ => True) (fun _ => False) rfl rfl ?aP (fun _ hk => hk.elim) ?aF ?aO ?aB ?aS ?aL ?_; (case aP => exact rfl); (case aB => exact (by repeat (first | (with_reducible first | exact HB.out | apply below_alloc | apply pw_below_drewN | apply below_drew1) | exact HB.out))); (case aF => exact (fun _ _ => trivial)); (case aO => exact (by (with_reducible repeat (first | apply Kd.R_alloc | apply Kd.R_drewN | apply Kd.R_drew)); exact HO_5.out)); (case aS => exact (below_size (by repeat (first | (with_reducible first | exact HB.out | apply below_alloc | apply pw_below_drewN | apply below_drew1) | exact HB.out)))); (case aL => have := LMc11.out; omega); intro v536 w12 ho hb hg hat; rw [← Ny535.out] at ho; have n0_ := Aside0.mk (hb); have n1_ := Aside0.mk (ho); clear HB; clear HO_5; have HB := n0_; have HO537 := n1_; clear n0_ n1_; clear ho hb hg hat))
                          go_roundg k2
                          case measure => have := HK1.out; have := HK2.out; omega
                          case rel => exact ⟨(y535), (wrap64 (x18_2 + 1)), (by first | rfl | (simp; done) | (simp [*]; done)), H', ⟨by have := HK1.out; have := HK2.out; omega⟩, ⟨by (with_reducible repeat (first | apply Kd.R_alloc | apply Kd.R_drewN | apply Kd.R_drew)); exact HO537.out⟩, ⟨by repeat (first | (with_reducible first | exact HB.out | apply below_alloc | apply pw_below_drewN | apply below_drew1) | exact HB.out)⟩⟩
                        · rw [if_neg c11] at H
                          exact absurd H (by simp)
                      · replace c10 := Bool.eq_false_iff.mpr c10
                        subst c10
                        have H1 : ((strings_HasPrefix.f (rdOf ByteArray.empty l1 x18_2) (rdOf ByteArray.empty l0 x12_1)).bind fun t538 => (if t538 = true then (if x5_2.length < 8796093022208 then (zone_Inter.l1 k2 l1 (x5_2 ++ [rdOf ByteArray.empty l1 x18_2]) (rdOf ByteArray.empty l0 x12_1) l0 (l0.length : Int) x12_1 l1 (l1.length : Int) (wrap64 (x18_2 + 1))) else (none)) else (zone_Inter.l1 k2 l1 x5_2 (rdOf ByteArray.empty l0 x12_1) l0 (l0.length : Int) x12_1 l1 (l1.length : Int) (wrap64 (x18_2 + 1))))) = some r := by rw [if_neg (show ¬ (false = true) by decide)] at H; exact H
                        clear H
                        have H := H1
                        clear H1
                        replace H := Option.bind_eq_some_iff.mp H
                        obtain ⟨t538, A130, H⟩ := H
                        replace H : (if t538 = true then (if x5_2.length < 8796093022208 then (zone_Inter.l1 k2 l1 (x5_2 ++ [rdOf ByteArray.empty l1 x18_2]) (rdOf ByteArray.empty l0 x12_1) l0 (l0.length : Int) x12_1 l1 (l1.length : Int) (wrap64 (x18_2 + 1))) else (none)) else (zone_Inter.l1 k2 l1 x5_2 (rdOf ByteArray.empty l0 x12_1) l0 (l0.length : Int) x12_1 l1 (l1.length : Int) (wrap64 (x18_2 + 1)))) = some r := H
                        have A13 := Aside0.mk A130
                        clear A130
                        by_cases c14 : t538 = true
                        · subst c14
                          have H1 : (if x5_2.length < 8796093022208 then (zone_Inter.l1 k2 l1 (x5_2 ++ [rdOf ByteArray.empty l1 x18_2]) (rdOf ByteArray.empty l0 x12_1) l0 (l0.length : Int) x12_1 l1 (l1.length : Int) (wrap64 (x18_2 + 1))) else (none)) = some r := by rw [if_pos rfl] at H; exact H
                          clear H
                          have H := H1
                          clear H1
                          by_cases c15 : x5_2.length < 8796093022208
                          · rw [if_pos c15] at H
                            have LMc15 := Aside0.mk c15
                            clear c15
                            obtain ⟨y539, hy539⟩ : ∃ y_ : List ByteArray, y_ = (x5_2 ++ [rdOf ByteArray.empty l1 x18_2]) := ⟨_, rfl⟩
                            replace H : (zone_Inter.l1 k2 l1 y539 (rdOf ByteArray.empty l0 x12_1) l0 (l0.length : Int) x12_1 l1 (l1.length : Int) (wrap64 (x18_2 + 1))) = some r := by first | (rw [hy539]; with_reducible exact H) | (have H2_ := (Option.bind_some _ _).symm.trans H; rw [hy539]; with_reducible exact H2_) | (have H2_ := (Option.bind_some _ _).symm.trans H; with_reducible exact H2_) | with_reducible exact H | (rw [hy539]; exact H) | exact H
                            have Ny539 := Aside0.mk hy539
                            clear hy539
                            have H' := Aside0.mk H
                            clear H
                            have p533 : 0 ≤ (x18_2 : Int) := of_decide_eq_true (by first | (with_reducible assumption) | assumption)
                            have q533 : x18_2 < (l1.length : Int) := of_decide_eq_true (by first | (with_reducible assumption) | assumption)
                            obtain ⟨ad533, e533, hx533_0⟩ := Kd.at_string HR1.out x18_2 p533 q533
                            cases e533
                            replace hx533_0 := (HB.out.cell (World.block_lt_of_cell? w _ hx533_0)).trans hx533_0
                            replace p533 := eq_true p533
                            replace q533 := eq_true q533
                            go_wp2_with (first | ((with_reducible refine gate_callee (f := 69) rfl ?_); refine goesL_ (some 25) rfl rfl Try.func69 (by kernel_rfl) rfl #[.string (rdOf ByteArray.empty l0 x12_1), .string (rdOf ByteArray.empty l1 x18_2)] rfl (by (try simp only [List.map_toArray, List.map_cons, List.map_nil]); first | done | rfl | (simp only [List.length_drop, List.length_take]; rfl)) ?_; (with_reducible refine (strings_HasPrefix.calls (rdOf ByteArray.empty l0 x12_1) (rdOf ByteArray.empty l1 x18_2) false _ A9.out).mono ?_); rintro e w' ⟨rfl, ⟨nd, rfl⟩⟩; refine ⟨_, rfl, ?_⟩) | ((with_reducible refine gate_callee (f := 69) rfl ?_); refine goesL_ (some 33) rfl rfl Try.func69 (by kernel_rfl) rfl #[.string (rdOf ByteArray.empty l1 x18_2), .string (rdOf ByteArray.empty l0 x12_1)] rfl (by (try simp only [List.map_toArray, List.map_cons, List.map_nil]); first | done | rfl | (simp only [List.length_drop, List.length_take]; rfl)) ?_; (with_reducible refine (strings_HasPrefix.calls (rdOf ByteArray.empty l1 x18_2) (rdOf ByteArray.empty l0 x12_1) true _ A13.out).mono ?_); rintro e w' ⟨rfl, ⟨nd, rfl⟩⟩; refine ⟨_, rfl, ?_⟩) | ((with_reducible refine gate_builtin (b := .append) (xs := #[.tmp 34, .tmp 36]) rfl ?_); at_builtin; refine Kd.R_append Kd.string (w0 := w) w.heap.size rfl (.tmp 34) (.tmp 36) 29 9 (.string ⟨#[]⟩) 16 rfl Try.underlying29 info9 rfl (by decide) (by omega) u5 x5_2 (rdOf ByteArray.empty l1 x18_2) [.string (rdOf ByteArray.empty l1 x18_2)] (fun _ => True) (fun _ => False) rfl rfl ?aP (fun _ hk => hk.elim) ?aF ?aO ?aB ?aS ?aL ?_; (case aP => exact rfl); (case aB => exact (by repeat (first | (with_reducible first | exact HB.out | apply below_alloc | apply pw_below_drewN | apply below_drew1) | exact HB.out))); (case aF => exact (fun _ _ => trivial)); (case aO => exact (by (with_reducible repeat (first | apply Kd.R_alloc | apply Kd.R_drewN | apply Kd.R_drew)); exact HO_5.out)); (case aS => exact (below_size (by repeat (first | (with_reducible first | exact HB.out | apply below_alloc | apply pw_below_drewN | apply below_drew1) | exact HB.out)))); (case aL => have := LMc15.out; omega); intro v540 w16 ho hb hg hat; rw [← Ny539.out] at ho; have n0_ := Aside0.mk (hb); have n1_ := Aside0.mk (ho); clear HB; clear HO_5; have HB := n0_; have HO541 := n1_; clear n0_ n1_; clear ho hb hg hat))
                            go_roundg k2
                            case measure => have := HK1.out; have := HK2.out; omega
                            case rel => exact ⟨(y539), (wrap64 (x18_2 + 1)), (by first | rfl | (simp; done) | (simp [*]; done)), H', ⟨by have := HK1.out; have := HK2.out; omega⟩, ⟨by (with_reducible repeat (first | apply Kd.R_alloc | apply Kd.R_drewN | apply Kd.R_drew)); exact HO541.out⟩, ⟨by repeat (first | (with_reducible first | exact HB.out | apply below_alloc | apply pw_below_drewN | apply below_drew1) | exact HB.out)⟩⟩
                          · rw [if_neg c15] at H
                            exact absurd H (by simp)
                        · replace c14 := Bool.eq_false_iff.mpr c14
                          subst c14
                          have H1 : (zone_Inter.l1 k2 l1 x5_2 (rdOf ByteArray.empty l0 x12_1) l0 (l0.length : Int) x12_1 l1 (l1.length : Int) (wrap64 (x18_2 + 1))) = some r := by rw [if_neg (show ¬ (false = true) by decide)] at H; exact H
                          clear H
                          have H := H1
                          clear H1
                          have H' := Aside0.mk H
                          clear H
                          have p533 : 0 ≤ (x18_2 : Int) := of_decide_eq_true (by first | (with_reducible assumption) | assumption)
                          have q533 : x18_2 < (l1.length : Int) := of_decide_eq_true (by first | (with_reducible assumption) | assumption)
                          obtain ⟨ad533, e533, hx533_0⟩ := Kd.at_string HR1.out x18_2 p533 q533
                          cases e533
                          replace hx533_0 := (HB.out.cell (World.block_lt_of_cell? w _ hx533_0)).trans hx533_0
                          replace p533 := eq_true p533
                          replace q533 := eq_true q533
                          go_wp2_with (first | ((with_reducible refine gate_callee (f := 69) rfl ?_); refine goesL_ (some 25) rfl rfl Try.func69 (by kernel_rfl) rfl #[.string (rdOf ByteArray.empty l0 x12_1), .string (rdOf ByteArray.empty l1 x18_2)] rfl (by (try simp only [List.map_toArray, List.map_cons, List.map_nil]); first | done | rfl | (simp only [List.length_drop, List.length_take]; rfl)) ?_; (with_reducible refine (strings_HasPrefix.calls (rdOf ByteArray.empty l0 x12_1) (rdOf ByteArray.empty l1 x18_2) false _ A9.out).mono ?_); rintro e w' ⟨rfl, ⟨nd, rfl⟩⟩; refine ⟨_, rfl, ?_⟩) | ((with_reducible refine gate_callee (f := 69) rfl ?_); refine goesL_ (some 33) rfl rfl Try.func69 (by kernel_rfl) rfl #[.string (rdOf ByteArray.empty l1 x18_2), .string (rdOf ByteArray.empty l0 x12_1)] rfl (by (try simp only [List.map_toArray, List.map_cons, List.map_nil]); first | done | rfl | (simp only [List.length_drop, List.length_take]; rfl)) ?_; (with_reducible refine (strings_HasPrefix.calls (rdOf ByteArray.empty l1 x18_2) (rdOf ByteArray.empty l0 x12_1) false _ A13.out).mono ?_); rintro e w' ⟨rfl, ⟨nd, rfl⟩⟩; refine ⟨_, rfl, ?_⟩))
                          go_roundg k2
                          case measure => have := HK1.out; have := HK2.out; omega
                          case rel => exact ⟨(x5_2), (wrap64 (x18_2 + 1)), (by first | rfl | (simp; done) | (simp [*]; done)), H', ⟨by have := HK1.out; have := HK2.out; omega⟩, ⟨by (with_reducible repeat (first | apply Kd.R_alloc | apply Kd.R_drewN | apply Kd.R_drew)); exact HO_5.out⟩, ⟨by repeat (first | (with_reducible first | exact HB.out | apply below_alloc | apply pw_below_drewN | apply below_drew1) | exact HB.out)⟩⟩
                    · rw [if_neg c8] at H
                      exact absurd H (by simp)
                  · rw [if_neg c7] at H
                    exact absurd H (by simp)
                · rw [if_neg c6] at H
                  have c6b0 : decide (x18_2 < (l1.length : Int)) = false := decide_eq_false c6
                  clear c6
                  have H' := Aside0.mk H
                  clear H
                  go_wp2
                  go_roundg k2
                  case measure => have := HK1.out; have := HK2.out; omega
                  case rel => exact ⟨(x5_2), (wrap64 (x12_1 + 1)), (by first | rfl | (simp; done) | (simp [*]; done)), H', ⟨by have := HK1.out; have := HK2.out; omega⟩, ⟨by (with_reducible repeat (first | apply Kd.R_alloc | apply Kd.R_drewN | apply Kd.R_drew)); exact HO_5.out⟩, ⟨by repeat (first | (with_reducible first | exact HB.out | apply below_alloc | apply pw_below_drewN | apply below_drew1) | exact HB.out)⟩⟩
          · rw [if_neg c5] at H
            exact absurd H (by simp)
        · rw [if_neg c4] at H
          exact absurd H (by simp)
      · rw [if_neg c3] at H
        have c3b0 : decide (x12_1 < (l0.length : Int)) = false := decide_eq_false c3
        clear c3
        replace H := Option.bind_eq_some_iff.mp H
        obtain ⟨t529, A170, H⟩ := H
        replace H : (some t529) = some r := H
        have A17 := Aside0.mk A170
        clear A170
        obtain rfl := Option.some.inj H
        obtain ⟨Ao18, co18, eo18⟩ := Kd.R_slice HO_5.out
        subst eo18
        go_wp2_with (first | ((with_reducible refine gate_callee (f := 67) rfl ?_); refine goesL_ (some 41) rfl rfl Try.func67 (by kernel_rfl) rfl #[.slice Ao18 x5_1.length co18] rfl (by (try simp only [List.map_toArray, List.map_cons, List.map_nil]); first | done | rfl | (simp only [List.length_drop, List.length_take]; rfl)) ?_; (with_reducible refine (zone_once.calls _ _ x5_1 t529 _ ?side1 ?side2 A17.out).mono ?_); (case side1 => repeat (first | exact (Kd.R_reads' HO_5.out).2.2 | (with_reducible refine Kd.C_alloc ?_ _) | (with_reducible refine Kd.C_drewN ?_ _) | (with_reducible refine Kd.C_drew ?_))); (case side2 => exact (Kd.R_reads' HO_5.out).2.1); rintro e w19 ⟨v530, rfl, ho0, hb⟩; refine ⟨_, rfl, ?_⟩; have n0_ := Aside0.mk (Kd.R_elder' (by (with_reducible repeat (first | apply Kd.R_alloc | apply Kd.R_drewN | apply Kd.R_drew)); exact HO_5.out) (Kd.R_base ho0) hb); have n1_ := Aside0.mk (Kd.R_lower (Kd.R_new' ho0 (Kd.R_lt (by (with_reducible repeat (first | apply Kd.R_alloc | apply Kd.R_drewN | apply Kd.R_drew)); exact HO_5.out))) (below_size (by repeat (first | (with_reducible first | exact HB.out | apply below_alloc | apply pw_below_drewN | apply below_drew1) | exact HB.out)))); have n2_ := Aside0.mk (below_step (by repeat (first | (with_reducible first | exact HB.out | apply below_alloc | apply pw_below_drewN | apply below_drew1) | exact HB.out)) hb); clear HO_5; clear HB; have HO_5 := n0_; have HO531 := n1_; have HB := n2_; clear n0_ n1_ n2_; (try clear hb); (try clear hb2); (try clear hk); (try clear hi); (try clear ho0)))
        go_ret
        exact ⟨_, by first | rfl | (simp [errW_none, errW_some] <;> rfl) | (simp [*, errW_none, errW_some] <;> rfl), by (with_reducible repeat (first | apply Kd.R_alloc | apply Kd.R_drewN | apply Kd.R_drew)); exact Kd.R_mono HO531.out (fun _ hk => trivial), by repeat (first | (with_reducible first | exact HB.out | apply below_alloc | apply pw_below_drewN | apply below_drew1) | exact HB.out)⟩

end Go.Proofs.Ytciiodbkhilkmaa.F
