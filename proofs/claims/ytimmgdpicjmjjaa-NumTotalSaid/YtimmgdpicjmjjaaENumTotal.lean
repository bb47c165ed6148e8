import Derived.Test.YtimmgdpicjmjjaaENumLaw
namespace Go.Eng.Num
open Go Go.Eng Go.RowKit Go.Proofs
set_option linter.unusedVariables false
set_option linter.unusedSimpArgs false
set_option maxHeartbeats 2000000
set_option maxRecDepth 10000
def hdL (l : List Int) (turn n : Int) (k i : Nat) : St := { slots := [.one (.at (.pv (zs l))), si turn, si n, .any, .any, .any, .any, .one (.at (.row 43 0)), si i, .any, .any, .any, .any, .any, .any, .any, .any, .any, .any, .any, .any, .any, .any, .any, .any, .any, .any, .any, .any, .any, .any, .any, .any, .any, .any, .any, .any, .any, .any, .any, .any, .any, .any, .any, .any, .any, .any, .any, .any, .any, .any, .any, .any, .any, .any, .any, .any, .any, .any, .any, .any, .any, .any, .any, .any, .any, .any, .any, .any, .any, .any, .any], obs := [(43, 0, some (.row true 1 ((rot l k i).map encZ)))] }
def outL (l : List Int) (turn n : Int) (r : List Int) : St := { slots := [.one (.at (.pv (zs l))), .any, si n, .any, .any, .any, .any, .one (.at (.row 43 0)), .any, .any, .any, .any, .any, .any, .any, .any, .any, .any, .any, .any, .any, .any, .any, .any, .any, .any, .any, .any, .any, .any, .any, .any, .any, .any, .any, .any, .any, .any, .any, .any, .any, .any, .any, .any, .any, .any, .any, .any, .any, .any, .any, .any, .any, .any, .any, .any, .any, .any, .any, .any, .any, .any, .any, .any, .any, .any, .any, .any, .any, .any, .any, .any], obs := [(43, 0, some (.row true 1 (r.map encZ)))] }
theorem law_spec (l0 : List Int) (turn n : Int) (hw0 : ∀ x ∈ l0, I64 x) (hn : I64 n) : Spec Try.prog 5 [.at (zs l0), .at (.int .i64 turn), .at (.int .i64 n)] (.one (.at (.pv (.bool true)))) := by
  obtain ⟨l, hl⟩ : ∃ l, l = l0.take 200 := ⟨_, rfl⟩
  have hc : (if (200 : Int) < (l0.length : Int) then (200 : Int) else (l0.length : Int)) = (l.length : Int) := by
    subst hl
    rw [List.length_take]
    split <;> omega
  have hc2 : List.take l.length (l0.map encZ) = l.map encZ := by
    subst hl
    rw [← List.map_take, List.length_take, List.take_eq_take_min (i := 200)]
  have hc3 : l.length ≤ l0.length := by subst hl; rw [List.length_take]; omega
  have hc4 : l.length ≤ 200 := by subst hl; rw [List.length_take]; omega
  have hw : ∀ x ∈ l, I64 x := fun x hx => hw0 x (by subst hl; exact List.mem_of_mem_take hx)
  clear hl
  obtain ⟨u, hu⟩ : ∃ u, u = IntKind.u64.wrap turn := ⟨_, rfl⟩
  have hu0 : 0 ≤ u ∧ u < 18446744073709551616 := by subst hu; simp [IntKind.wrap, IntKind.bits, IntKind.signed]; omega
  obtain ⟨k, hk⟩ : ∃ k : Nat, k = (u.tmod l.length).toNat := ⟨_, rfl⟩
  have hk1 : u.tmod l.length = k := by
    have := Int.tmod_nonneg (l.length : Int) hu0.1
    omega
  have hk2 : 0 < l.length → k < l.length := fun h => by
    have := Int.tmod_lt_of_pos u (b := (l.length : Int)) (by omega)
    omega
  have hlw : IntKind.u64.wrap (l.length : Int) = l.length := by simp [IntKind.wrap, IntKind.bits, IntKind.signed]; omega
  clear hk
  obtain ⟨r, hr⟩ : ∃ r, r = rot l k l.length := ⟨_, rfl⟩
  have hrl : r.length = l.length := by subst hr; simp [rot]
  have hrs : r.sum = l.sum ∧ ∀ x ∈ r, x ∈ l := by
    subst hr
    rcases Nat.eq_zero_or_pos l.length with h | h
    · obtain rfl : l = [] := List.length_eq_zero_iff.1 h
      simp [rot]
    · exact ⟨rot_sum l k (hk2 h), rot_mem l k (hk2 h)⟩
  have hlt := total_spec l (by omega) hw
  have hrt := total_spec r (by omega) fun x hx => hw x (hrs.2 x hx)
  rw [hrs.1] at hrt
  have hneg : IntKind.i64.wrap (-n) = if -9223372036854775808 < n then -n else IntKind.i64.wrap (-n) := by
    split
    · unfold I64 at hn
      exact wr _ (by omega) (by omega)
    · rfl
  have hrn : -9223372036854775808 < n → Spec Try.prog 11 [.at (.list 1 ([.int .i64 n] :: (r.map encZ ++ [[.int .i64 (-n)]])))] (two (tot l.sum)) := fun h => by
    unfold I64 at hn
    have h1 := total_spec (n :: (r ++ [-n])) (by simp; omega) (by
      intro x hx
      rcases List.mem_cons.1 hx with rfl | hx
      · unfold I64; omega
      · rcases List.mem_append.1 hx with hx | hx
        · exact hw x (hrs.2 x hx)
        · simp at hx; subst hx; unfold I64; omega)
    have e : (n :: (r ++ [-n])).sum = l.sum := by rw [List.sum_cons, List.sum_append, hrs.1]; simp; omega
    rw [e] at h1
    simpa [zs] using h1
  have hap1 : (1 + l.length) * 9 ≤ 70368744177664 := by omega
  have hap2 : (l.length + 1 + 1) * 9 ≤ 70368744177664 := by omega
  by_cases hn1 : -9223372036854775808 < n
  all_goals
    apply spec_of hE Try.func5 rfl rfl (by simp) (e := .ret) (own := none) (key := 0) (ess := []) (us := [])
    case he => exact .inr rfl
    case hrun =>
      simp only [Try.f5]
      apply ARun.seq
      · apply ARun.region; repeat (first | exact .nil | apply RO.cons none (by simp ; (try simp (disch := omega) only [w64]); exact ⟨rfl, rfl⟩) (by simp) (by simp; rfl))
      apply ARun.seq
      · apply ARun.seq
        · apply ARun.region
          apply RO.cons (some (.one (.at (.pv (.bool true))))) (by simp [fn8]; exact ⟨rfl, rfl⟩) (by intro d hd; cases hd; exact awake_spec) (by simp; rfl)
          repeat (first | exact .nil | apply RO.cons none (by simp ; (try simp (disch := omega) only [w64]); exact ⟨rfl, rfl⟩) (by simp) (by simp; rfl))
        · apply ARun.cond false (by simp)
          exact .skip
      apply ARun.seq
      · apply ARun.region; repeat (first | exact .nil | apply RO.cons none (by simp [ty29, ty2, hc, hc2, hc3]; (try simp (disch := omega) only [w64]); exact ⟨rfl, rfl⟩) (by simp) (by simp; rfl))
      apply ARun.seq
      · apply ARun.region; repeat (first | exact .nil | apply RO.cons none (by simp ; (try simp (disch := omega) only [w64]); exact ⟨rfl, rfl⟩) (by simp) (by simp; rfl))
      apply ARun.seq (s1 := outL l turn n r)
      · apply ARun.seq
        · apply ARun.region; repeat (first | exact .nil | apply RO.cons none (by simp ; (try simp (disch := omega) only [w64]); exact ⟨rfl, rfl⟩) (by simp) (by simp; rfl))
        refine .block (e := .exit 0) (.from_norm [0, 1, 2, 7, 8] [] (σ1 := { slots := [.one (.at (.pv (zs l))), si turn, si n, .any, .any, .any, .any, .one (.at .nil), si 0, .any, .any, .any, .any, .any, .any, .any, .any, .any, .any, .any, .any, .any, .any, .any, .any, .any, .any, .any, .any, .any, .any, .any, .any, .any, .any, .any, .any, .any, .any, .any, .any, .any, .any, .any, .any, .any, .any, .any, .any, .any, .any, .any, .any, .any, .any, .any, .any, .any, .any, .any, .any, .any, .any, .any, .any, .any, .any, .any, .any, .any, .any, .any], obs := [] }) (by rfl) (.from_nil 7 43 1 rfl rfl (.from_norm [0, 1, 2, 7, 8] [43] (σ1 := hdL l turn n k 0) (by rfl) ?_)))
        refine ARun.rounds (fun m s => ∃ i, l.length = i + m ∧ s = hdL l turn n k i) (by simp) ?_ ?_ l.length _ ⟨0, by simp, rfl⟩
        · rintro s ⟨i, hi, rfl⟩
          obtain rfl : i = l.length := by omega
          apply ARun.to_norm [0, 2, 7] [43]
          · unfold hdL
            apply ARun.seqx
            · apply ARun.seq
              · apply ARun.region; repeat (first | exact .nil | apply RO.cons none (by simp [ty29]; (try simp (disch := omega) only [w64]); exact ⟨rfl, rfl⟩) (by simp) (by simp; rfl))
              · exact .cond false (by simp) .exit
            · simp
          · rw [hr]; rfl
        · rintro m s ⟨i, hi, rfl⟩
          have hi' : i < l.length := by omega
          have hk3 := hk2 (by omega)
          have hkw : IntKind.i64.wrap (k : Int) = k := wr _ (by omega) (by omega)
          have hiw : IntKind.i64.wrap ((i : Int) + (k : Int)) = i + k := wr _ (by omega) (by omega)
          have hiw1 : IntKind.i64.wrap ((i : Int) + 1) = (i : Int) + 1 := wr _ (by omega) (by omega)
          obtain ⟨j, hj⟩ : ∃ j, j = (i + k) % l.length := ⟨_, rfl⟩
          have hj1 : ((i : Int) + (k : Int)).tmod l.length = j := by subst hj; rw [Int.tmod_eq_emod_of_nonneg (by omega)]; simp
          have hj2 : j < l.length := by subst hj; exact Nat.mod_lt _ (by omega)
          have hne : (l.length : Int) ≠ 0 := by omega
          have hr1 := bin_rem .u64 u l.length hne
          have hr2 := bin_rem .i64 ((i : Int) + (k : Int)) l.length hne
          have hrl : (rot l k i).length = i := by simp [rot]
          have happ : (i + 1) * 9 ≤ 70368744177664 := by omega
          apply again
          · apply ARun.to_norm [0, 1, 2, 7, 8] [43]
            · unfold hdL
              apply ARun.seq
              · apply ARun.seq
                · apply ARun.region; repeat (first | exact .nil | apply RO.cons none (by simp [ty29]; (try simp (disch := omega) only [w64]); exact ⟨rfl, rfl⟩) (by simp) (by simp; rfl))
                · exact .cond true (by simp; omega) .skip
              apply ARun.seq
              · apply ARun.block (e := .normal)
                apply ARun.region; repeat (first | exact .nil | apply RO.cons none (by simp [-absBin, ty29, ty2, ty3, ty33, ← hu, hlw, hr1, hk1, hkw, bin_add, hiw, hr2, hj1, hj2, hrl, happ]; (try simp (disch := omega) only [w64]); exact ⟨rfl, rfl⟩) (by simp) (by simp; rfl))
              · apply ARun.region; repeat (first | exact .nil | apply RO.cons none (by simp [hiw1]; (try simp (disch := omega) only [w64]); exact ⟨rfl, rfl⟩) (by simp) (by simp; rfl))
            · rfl
          · exact ⟨i + 1, by omega, by unfold hdL; rw [rot_succ l k i hi' j hj hj2]; simp⟩
      unfold outL
      apply ARun.seq
      · apply ARun.region
        apply RO.cons none (by simp [ty29]; (try simp (disch := omega) only [w64]); exact ⟨rfl, rfl⟩) (by simp) (by simp; rfl)
        apply RO.cons (some (two (tot l.sum))) (by simp [ty29, fn11]; exact ⟨rfl, rfl⟩) (by intro d hd; cases hd; exact hlt) (by simp; rfl)
        repeat (first | exact .nil | apply RO.cons none (by simp ; (try simp (disch := omega) only [w64]); exact ⟨rfl, rfl⟩) (by simp) (by simp; rfl))
      apply ARun.seq
      · apply ARun.seq
        · apply ARun.region; repeat (first | exact .nil | apply RO.cons none (by simp [ty2]; (try simp (disch := omega) only [w64]); exact ⟨rfl, rfl⟩) (by simp) (by simp; rfl))
        · first
            | apply ARun.cond true (by first | (simp [hn1]; done) | (simp; omega))
              apply ARun.region; repeat (first | exact .nil | apply RO.cons none (by simp [ty29, ty2, hrl, hneg, hn1, hap1, hap2]; (try simp (disch := omega) only [w64]); exact ⟨rfl, rfl⟩) (by simp) (by simp; rfl))
            | apply ARun.cond false (by first | (simp [hn1]; done) | (simp; omega))
              exact .skip
      apply ARun.seq
      · apply ARun.region
        apply RO.cons none (by simp [ty29]; (try simp (disch := omega) only [w64]); exact ⟨rfl, rfl⟩) (by simp) (by simp; rfl)
        first
          | apply RO.cons (some (two (tot l.sum))) (by simp [ty29, fn11]; exact ⟨rfl, rfl⟩) (by intro d hd; cases hd; exact hrt) (by simp; rfl)
          | apply RO.cons (some (two (tot l.sum))) (by simp [ty29, fn11]; exact ⟨rfl, rfl⟩) (by intro d hd; cases hd; exact (hrn hn1)) (by simp; rfl)
        repeat (first | exact .nil | apply RO.cons none (by simp ; (try simp (disch := omega) only [w64]); exact ⟨rfl, rfl⟩) (by simp) (by simp; rfl))
      apply ARun.seq
      · apply ARun.region; repeat (first | exact .nil | apply RO.cons none (by simp ; (try simp (disch := omega) only [w64]); exact ⟨rfl, rfl⟩) (by simp) (by simp; rfl))
      · exact .ret
    case hres =>
      simp [resFin, resRun, resVal, RM.bind, ret1, retAt, atPV, resRT]
end Go.Eng.Num
