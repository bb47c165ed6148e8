/- Chapter 17: msg.Put, msg.Read, the fixed answer; MsgPrivate. -/
import Derived.Test.YtiliffhopdiepaaGreatVPp
import Derived.Test.YtiliffhopdiepaaGreatVRc
import Derived.Test.YtiliffhopdiepaaGreatVWa
import Derived.Test.YtiliffhopdiepaaGreatVQb
namespace Go.E2.S
open Go Go.E2 Go.RowKit Go.Proofs
set_option linter.unusedVariables false
set_option linter.unusedSimpArgs false
set_option maxHeartbeats 8000000
set_option maxRecDepth 10000
/-- A message that isn't too great to be looked at. -/
structure FitM (m : Msg) : Prop where
  h3 : m.f3.length < 1000000
  h4 : m.f4.length < 1000000
  h5 : m.f5.length < 100000
  h6 : m.f6.length < 100000
  h7 : m.f7.length < 1000000
  h8 : m.f8.length < 1000000
  ht : ∀ t ∈ m.f8, t.f1 ≤ 9223372036854775807 ∧ t.f2.length < 1000000 ∧ t.f3.length < 1000000 ∧ ∀ e ∈ t.f3, e.f6.length < 100000
theorem FitM.wf {m : Msg} (h : FitM m) : WfM m := fun t ht e he => by have := (h.ht t ht).2.2.2 e he; omega
theorem FitM.b {m : Msg} (h : FitM m) : ∀ t ∈ m.f8, t.f1 ≤ 9223372036854775807 ∧ t.f2.length < 1000000000 ∧ t.f3.length < 1000000000 := fun t ht => by
  have := h.ht t ht
  exact ⟨by omega, by omega, by omega⟩
theorem msgFormedC (m : Msg) (h : FitM m) : A.fn 17 [ag (encM m)] [] = some (.one (bv (formedM m)), []) :=
  msgFormed m h.wf h.h3 h.h4 h.h5 h.h6 (by have := h.h7; omega) h.h8 h.b
theorem msgPutC (m : Msg) (h : FitM m) (hw : WfMi m) : A.fn 16 [ag (encM m)] [] = some (.tup [pv (lU (putM m).1), iv (putM m).2], []) := by
  unfold putM
  cases hf : formedM m with
  | true =>
    rw [if_pos rfl, ← msgB_ok (formedM_GM hf hw)]
    exact msgPut1 m hf (formedM_Sm hf) h.wf h.b
  | false =>
    rw [if_neg (by simp)]
    exact msgPut0 m hf h.wf h.h3 h.h4 h.h5 h.h6 (by have := h.h7; omega) h.h8 h.b
theorem short_fit {m : Msg} (h : shortM m = true) (hw : ∀ t ∈ m.f8, t.f1 ≤ 9223372036854775807) : FitM m := by
  unfold shortM shortS shortL shortTs shortT shortEs shortE at h
  simp only [Bool.and_eq_true, decide_eq_true_eq, List.all_eq_true] at h
  obtain ⟨h1, h2, h3, h4, h5, h6, h7⟩ := h
  refine ⟨by omega, by omega, by omega, by omega, by omega, by omega, fun t ht => ?_⟩
  obtain ⟨k1, k2, k3⟩ := h7 t ht
  refine ⟨hw t ht, by omega, by omega, fun e he => ?_⟩
  have := k3 e he
  omega
theorem ask_fit (v : List Int) (h : v.length < 1000000) : FitM ⟨5, 0, false, v, [], [], [], [], []⟩ :=
  ⟨h, by simp, by simp, by simp, by simp, by simp, fun t ht => by cases ht⟩
theorem awake17 : A.fn 14 [] [] = some (.one (bv true), []) := by
  have q1 := msgPutC askM (ask_fit _ (by decide)) askM_wf
  unfold putM at q1
  rw [if_pos askM_formed, askM_bytes] at q1
  have q2 := msgRead [5, 0, 0, 3, 1, 0, 2, 0, 0, 0, 0, 0] (by decide)
  rw [askM_read] at q2
  have q3 := rsameU [5, 0, 0, 3, 1, 0, 2, 0, 0, 0, 0, 0] [5, 0, 0, 3, 1, 0, 2, 0, 0, 0, 0, 0] (by decide)
  simp [ag, encM, askM, lZ, lS, lI, lT, lU, encU] at q1 q2 q3
  rw [fn_run hL Tryz.func14 rfl L14 (by rfl) rfl rfl rfl (by decide)]
  (simp [Tryz.f14, q1, q2, q3]; try (rw [if_pos ?q]; (case q => kernel_rfl); simp [Tryz.f14, q1, q2, q3]))
abbrev oL (m : Msg) : List Upd := [(2000, 0, some (.blk ((encM m).map .pv)))]
theorem msgPrivate (m : Msg) (hw : WfMi m) (h1 : ∀ t ∈ m.f8, t.f1 ≤ 9223372036854775807) : A.fn 7 [ag (encM m)] [] = some (.one (bv true), []) := by
  have q0 := awake17
  have q1 := shortMsg m
  cases hs : shortM m with
  | false =>
    rw [hs] at q1
    simp [ag, encM] at q1
    rw [fn_run hL Tryz.func7 rfl L7 (by rfl) rfl rfl rfl (by decide)]
    (simp [Tryz.f7, q0, q1]; try (rw [if_pos ?q]; (case q => kernel_rfl); simp [Tryz.f7, q0, q1]))
  | true =>
    have hfit := short_fit hs h1
    have q2 := msgFormedC m hfit
    rw [hs] at q1
    cases hf : formedM m with
    | false =>
      rw [hf] at q2
      simp [ag, encM] at q1 q2
      rw [fn_run hL Tryz.func7 rfl L7 (by rfl) rfl rfl rfl (by decide)]
      (simp [Tryz.f7, q0, q1, q2]; try (rw [if_pos ?q]; (case q => kernel_rfl); simp [Tryz.f7, q0, q1, q2]))
    | true =>
      rw [hf] at q2
      by_cases hk : m.f0 = 3 ∨ m.f0 = 4
      · have s1 := says_items hf
        have s2 := says_txns hf hk
        have f1 := hfit.h6
        have f2 := hfit.h7
        have f3 := hfit.h8
        have f4 := hfit.ht
        have z0 := lpGo (f := 7) (id := 0) m.f7.length (fun i => hd7_0 [.at (.ptr 2000 0 0), iv i] (oL m)) (some (.exit 0, ex7_0 [.at (.ptr 2000 0 0), nov] (oL m))) (fun i hi => by
          have w6 : IntKind.i64.wrap ((i : Int) + 1) = i + 1 := wr _ (by omega) (by omega)
          obtain ⟨a1, a2⟩ := s1 _ (List.getElem_mem hi)
          have k1 := covers m.f6 m.f7[i].f0 (by omega)
          have k2 := vecHas m.f3 m.f7[i].f5
          rw [a1] at k1
          rw [a2] at k2
          simp [ag, encD] at k2
          rw [lp_run hL Tryz.func7 rfl (by rfl) 0 rfl]
          (simp [hi, k1, k2, w6, oL, encM]; try (rw [if_pos ?q]; (case q => kernel_rfl); simp [hi, k1, k2, w6, oL, encM]))) (by
          rw [lp_run hL Tryz.func7 rfl (by rfl) 0 rfl]
          simp [oL, encM])
        have z4 := fun (j : Nat) (hj : j < m.f8.length) => lpGo (f := 7) (id := 4) m.f8[j].f3.length (fun i => hd7_4 [.at (.ptr 2000 0 0), iv j, iv i] (oL m)) (some (.exit 4, ex7_4 [.at (.ptr 2000 0 0), nov, iv j] (oL m))) (fun i hi => by
          have hb := (f4 _ (List.getElem_mem hj)).2.2.1
          have w6 : IntKind.i64.wrap ((i : Int) + 1) = i + 1 := wr _ (by omega) (by omega)
          have a1 := (s2 _ (List.getElem_mem hj)).2.2 _ (List.getElem_mem hi)
          have k1 := covers m.f6 m.f8[j].f3[i].f1 (by omega)
          rw [a1] at k1
          rw [lp_run hL Tryz.func7 rfl (by rfl) 4 rfl]
          (simp [hi, hj, k1, w6, oL, encM]; try (rw [if_pos ?q]; (case q => kernel_rfl); simp [hi, hj, k1, w6, oL, encM]))) (by
          rw [lp_run hL Tryz.func7 rfl (by rfl) 4 rfl]
          simp [hj, oL, encM])
        have z2 := lpGo (f := 7) (id := 2) m.f8.length (fun i => hd7_2 [.at (.ptr 2000 0 0), iv i] (oL m)) (some (.exit 2, ex7_2 [nov] [])) (fun i hi => by
          have w6 : IntKind.i64.wrap ((i : Int) + 1) = i + 1 := wr _ (by omega) (by omega)
          obtain ⟨a1, a2, a3⟩ := s2 _ (List.getElem_mem hi)
          have k1 := vecHas m.f3 ⟨m.f8[i].f0, m.f8[i].f1, 0⟩
          have k2 := vecHas m.f4 ⟨m.f8[i].f0, m.f8[i].f1, 0⟩
          have k3 := z4 i hi
          rw [a1] at k1
          rw [a2] at k2
          simp [ag, encD] at k1 k2
          simp [oL, encM] at k3
          rw [lp_run hL Tryz.func7 rfl (by rfl) 2 rfl]
          (simp [hi, k1, k2, k3, w6, oL, encM]; try (rw [if_pos ?q]; (case q => kernel_rfl); simp [hi, k1, k2, k3, w6, oL, encM]))) (by
          rw [lp_run hL Tryz.func7 rfl (by rfl) 2 rfl]
          simp [oL, encM])
        simp [ag, encM] at q1 q2
        simp [oL, encM] at z0 z2
        rw [fn_run hL Tryz.func7 rfl L7 (by rfl) rfl rfl rfl (by decide)]
        rcases hk with hk | hk
        · have hk' := eq_true hk
          (simp [Tryz.f7, q0, q1, q2, z0, z2, hk']; try (rw [if_pos ?q]; (case q => kernel_rfl); simp [Tryz.f7, q0, q1, q2, z0, z2, hk']))
        · have hk' := eq_true hk
          have hk2 : ¬ m.f0 = 3 := by omega
          (simp [Tryz.f7, q0, q1, q2, z0, z2, hk', hk2]; try (rw [if_pos ?q]; (case q => kernel_rfl); simp [Tryz.f7, q0, q1, q2, z0, z2, hk', hk2]))
      · have hk1 : ¬ m.f0 = 3 := fun e => hk (.inl e)
        have hk2 : ¬ m.f0 = 4 := fun e => hk (.inr e)
        simp [ag, encM] at q1 q2
        rw [fn_run hL Tryz.func7 rfl L7 (by rfl) rfl rfl rfl (by decide)]
        (simp [Tryz.f7, q0, q1, q2, hk1, hk2]; try (rw [if_pos ?q]; (case q => kernel_rfl); simp [Tryz.f7, q0, q1, q2, hk1, hk2]))
end Go.E2.S
