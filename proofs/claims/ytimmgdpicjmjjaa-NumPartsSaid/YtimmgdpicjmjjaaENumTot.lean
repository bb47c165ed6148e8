import Derived.Test.YtimmgdpicjmjjaaENum0
namespace Go.Eng.Num
open Go Go.Eng Go.RowKit Go.Proofs
set_option linter.unusedVariables false
set_option linter.unusedSimpArgs false
set_option maxHeartbeats 1000000
set_option maxRecDepth 10000
abbrev encZ (x : Int) : List PV := [.int .i64 x]
abbrev zs (l : List Int) : PV := .list 1 (l.map encZ)
abbrev si (x : Int) : AV := .one (.at (.pv (.int .i64 x)))
def hdT (l : List Int) (hi lo : Int) (i : Nat) : St := { slots := [.any, .any, .any, .any, si hi, si lo, .any, .any, .any, .any, .any, .one (.at (.pv (zs l))), si l.length, si i, .any, .any, .any, .any, .any, .any, .any, .any, .any, .any, .any, .any, .any, .any, .any, .any, .any, .any, .any, .any, .any, .any, .any, .any, .any, .any, .any, .any], obs := [] }
def outT (hi lo : Int) : St := { slots := [.any, .any, .any, .any, si hi, si lo, .any, .any, .any, .any, .any, .any, .any, .any, .any, .any, .any, .any, .any, .any, .any, .any, .any, .any, .any, .any, .any, .any, .any, .any, .any, .any, .any, .any, .any, .any, .any, .any, .any, .any, .any, .any], obs := [] }
theorem sum_take (l : List Int) (i : Nat) (h : i < l.length) : (l.take (i + 1)).sum = (l.take i).sum + l[i] := by
  rw [List.take_succ_eq_append_getElem h, List.sum_append]; simp
def hiS (l : List Int) : Int := (l.map (· / 4294967296)).sum
def loS (l : List Int) : Int := (l.map (· % 4294967296)).sum
theorem hi_lo (l : List Int) (hw : ∀ x ∈ l, I64 x) : hiS l * 4294967296 + loS l = l.sum ∧ -2147483648 * (l.length : Int) ≤ hiS l ∧ hiS l ≤ 2147483648 * (l.length : Int) ∧ 0 ≤ loS l ∧ loS l ≤ 4294967295 * (l.length : Int) := by
  induction l with
  | nil => simp [hiS, loS]
  | cons x l ih =>
    have h1 := ih fun y hy => hw y (.tail _ hy)
    have h2 := hw x (.head _)
    unfold I64 at h2
    simp only [hiS, loS, List.map_cons, List.sum_cons, List.length_cons] at h1 ⊢
    omega
theorem hi_take (l : List Int) (i : Nat) (h : i < l.length) : hiS (l.take (i + 1)) = hiS (l.take i) + l[i] / 4294967296 := by
  unfold hiS
  rw [List.take_succ_eq_append_getElem h, List.map_append, List.sum_append]; simp
theorem lo_take (l : List Int) (i : Nat) (h : i < l.length) : loS (l.take (i + 1)) = loS (l.take i) + l[i] % 4294967296 := by
  unfold loS
  rw [List.take_succ_eq_append_getElem h, List.map_append, List.sum_append]; simp
theorem and_mask (x : Int) (_h0 : -9223372036854775808 ≤ x) (_h1 : x ≤ 9223372036854775807) : Go.bits .and .i64 x 4294967295 = x % 4294967296 := by
  have hm : (BitVec.ofInt 64 (4294967295 : Int)).toNat = 2 ^ 32 - 1 := by decide
  have hx : (BitVec.ofInt 64 x).toNat = (x % 18446744073709551616).toNat := by rw [BitVec.toNat_ofInt]; rfl
  show IntKind.i64.wrap ((BitVec.ofInt 64 x &&& BitVec.ofInt 64 4294967295).toNat : Int) = _
  rw [BitVec.toNat_and, hm, hx, Nat.and_two_pow_sub_one_eq_mod, IntKind.wrap_i64]
  have h2 : (2 : Nat) ^ 32 = 4294967296 := by decide
  rw [h2]
  omega
theorem or_join (h y : Int) (h0 : -2147483648 ≤ h) (h1 : h < 2147483648) (y0 : 0 ≤ y) (y1 : y < 4294967296) : Go.bits .or .i64 (h * 4294967296) y = h * 4294967296 + y := by
  have h2 : (2 : Nat) ^ 32 = 4294967296 := by decide
  have h3 : ((2 ^ 64 : Nat) : Int) = 18446744073709551616 := by decide
  have hx : (BitVec.ofInt 64 (h * 4294967296)).toNat = 2 ^ 32 * (h % 4294967296).toNat := by
    rw [BitVec.toNat_ofInt, h2, h3]; omega
  have hy : (BitVec.ofInt 64 y).toNat = y.toNat := by
    rw [BitVec.toNat_ofInt, h3]; omega
  show IntKind.i64.wrap ((BitVec.ofInt 64 (h * 4294967296) ||| BitVec.ofInt 64 y).toNat : Int) = _
  rw [BitVec.toNat_or, hx, hy, ← Nat.two_pow_add_eq_or_of_lt (by rw [h2]; omega), IntKind.wrap_i64, h2]
  omega
theorem bin_add (a b : Int) : absBin .add (.int .i64 a) (.int .i64 b) = some (.int .i64 (IntKind.i64.wrap (a + b))) := rfl
theorem bin_and (a : Int) : absBin .and (.int .i64 a) (.int .i64 4294967295) = some (.int .i64 (Go.bits .and .i64 a 4294967295)) := rfl
theorem bin_or (a b : Int) : absBin .or (.int .i64 a) (.int .i64 b) = some (.int .i64 (Go.bits .or .i64 a b)) := rfl
theorem bin_shr (a : Int) : absBin .shr (.int .i64 a) (.int .u64 32) = some (.int .i64 (a / 4294967296)) := by
  have : ∀ a : Int, a.fdiv 4294967296 = a / 4294967296 := fun a => Int.fdiv_eq_ediv_of_nonneg a (by decide)
  simp [absBin, IntKind.bits, this]
theorem bin_shl (a : Int) (h0 : -2147483648 ≤ a) (h1 : a < 2147483648) : absBin .shl (.int .i64 a) (.int .u64 32) = some (.int .i64 (a * 4294967296)) := by
  have : IntKind.i64.wrap (a * 4294967296) = a * 4294967296 := wr _ (by omega) (by omega)
  simp [absBin, IntKind.bits, this]
theorem total_spec (l : List Int) (hl : l.length ≤ 1000) (hw : ∀ x ∈ l, I64 x) : Spec Try.prog 11 [.at (zs l)] (two (tot l.sum)) := by
  obtain ⟨q1, q2, q3, q4, q5⟩ := hi_lo l hw
  have hm := and_mask (loS l) (by omega) (by omega)
  have hwr := wr (hiS l + loS l / 4294967296) (by omega) (by omega)
  generalize hh : hiS l + loS l / 4294967296 = h at hwr
  have ht : tot l.sum = if h < -2147483648 ∨ 2147483648 ≤ h then (0, 5) else (h * 4294967296 + loS l % 4294967296, 0) := by
    unfold tot
    split <;> split <;> first | rfl | omega | (congr 1; omega)
  rw [ht]
  by_cases c1 : h < -2147483648 <;> by_cases c2 : 2147483648 ≤ h
  all_goals first | (exfalso; omega) | skip
  all_goals
    apply spec_of hE Try.func11 rfl rfl (by simp) (e := .ret) (own := none) (key := 0) (ess := []) (us := [])
    case he => exact .inr rfl
    case hrun =>
      simp only [Try.f11]
      apply ARun.seq
      · apply ARun.region; repeat (first | exact .nil | apply RO.cons none (by simp ; (try simp (disch := omega) only [w64]); exact ⟨rfl, rfl⟩) (by simp) (by simp; rfl))
      apply ARun.seq
      · apply ARun.seq
        · apply ARun.region; repeat (first | exact .nil | apply RO.cons none (by simp [ty29]; (try simp (disch := omega) only [w64]); exact ⟨rfl, rfl⟩) (by simp) (by simp; rfl))
        · apply ARun.cond false (by simp; omega)
          exact .skip
      apply ARun.seq
      · apply ARun.region; repeat (first | exact .nil | apply RO.cons none (by simp ; (try simp (disch := omega) only [w64]); exact ⟨rfl, rfl⟩) (by simp) (by simp; rfl))
      apply ARun.seq (s1 := outT (hiS l) (loS l))
      · apply ARun.seq
        · apply ARun.region; repeat (first | exact .nil | apply RO.cons none (by simp [ty29]; (try simp (disch := omega) only [w64]); exact ⟨rfl, rfl⟩) (by simp) (by simp; rfl))
        refine .block (e := .exit 0) (.from_norm [4, 5, 11, 12, 13] [] (σ1 := hdT l 0 0 0) (by rfl) ?_)
        refine ARun.rounds (σ' := outT (hiS l) (loS l)) (fun n s => ∃ i, l.length = i + n ∧ s = hdT l (hiS (l.take i)) (loS (l.take i)) i) (by simp) ?_ ?_ l.length _ ⟨0, by simp, rfl⟩
        · rintro s ⟨i, hi1, rfl⟩
          obtain rfl : i = l.length := by omega
          rw [List.take_length]
          apply ARun.to_norm [4, 5] []
          · unfold hdT
            apply ARun.seq
            · apply ARun.region; repeat (first | exact .nil | apply RO.cons none (by simp ; (try simp (disch := omega) only [w64]); exact ⟨rfl, rfl⟩) (by simp) (by simp; rfl))
            apply ARun.seqx (.cond false (by simp) .exit) (by simp)
          · rfl
        · rintro n s ⟨i, hi1, rfl⟩
          have hi' : i < l.length := by omega
          have hx := hw l[i] (List.getElem_mem hi')
          unfold I64 at hx
          have hm := and_mask l[i] hx.1 hx.2
          obtain ⟨q1, q2, q3, q4, q5⟩ := hi_lo (l.take i) fun x hx => hw x (List.mem_of_mem_take hx)
          rw [List.length_take, Nat.min_eq_left (by omega)] at q2 q3 q5
          apply again
          · apply ARun.to_norm [4, 5, 11, 12, 13] []
            · unfold hdT
              apply ARun.seq
              · apply ARun.region; repeat (first | exact .nil | apply RO.cons none (by simp ; (try simp (disch := omega) only [w64]); exact ⟨rfl, rfl⟩) (by simp) (by simp; rfl))
              apply ARun.seq (.cond true (by simp; omega) .skip)
              apply ARun.seq
              · apply ARun.block (e := .normal)
                apply ARun.seq
                · apply ARun.region; repeat (first | exact .nil | apply RO.cons none (by simp [ty29, ty2, hi']; (try simp (disch := omega) only [w64]); exact ⟨rfl, rfl⟩) (by simp) (by simp; rfl))
                apply ARun.seq
                · apply ARun.region; repeat (first | exact .nil | apply RO.cons none (by simp [-absBin, bin_shr, bin_add, ty2]; (try simp (disch := omega) only [w64]); exact ⟨rfl, rfl⟩) (by simp) (by simp; rfl))
                · apply ARun.region; repeat (first | exact .nil | apply RO.cons none (by simp [-absBin, bin_and, bin_add, hm, ty2]; (try simp (disch := omega) only [w64]); exact ⟨rfl, rfl⟩) (by simp) (by simp; rfl))
              · apply ARun.region; repeat (first | exact .nil | apply RO.cons none (by simp ; (try simp (disch := omega) only [w64]); exact ⟨rfl, rfl⟩) (by simp) (by simp; rfl))
            · rfl
          · exact ⟨i + 1, by omega, by rw [hi_take l i hi', lo_take l i hi']; simp [hdT]⟩
      unfold outT
      apply ARun.seq
      · apply ARun.region; repeat (first | exact .nil | apply RO.cons none (by simp [-absBin, bin_shr, bin_add, ty2, hh, hwr]; (try simp (disch := omega) only [w64]); exact ⟨rfl, rfl⟩) (by simp) (by simp; rfl))
      apply ARun.seq
      · apply ARun.region; repeat (first | exact .nil | apply RO.cons none (by simp [-absBin, bin_and, hm, ty2]; (try simp (disch := omega) only [w64]); exact ⟨rfl, rfl⟩) (by simp) (by simp; rfl))
      first
        | apply ARun.seqx
          · apply ARun.seq
            · apply ARun.region; repeat (first | exact .nil | apply RO.cons none (by simp [c1, c2]; (try simp (disch := omega) only [w64]); exact ⟨rfl, rfl⟩) (by simp) (by simp; rfl))
            · apply ARun.cond true (by first | (simp; done) | (simp; omega))
              apply ARun.seq
              · apply ARun.region; repeat (first | exact .nil | apply RO.cons none (by simp ; (try simp (disch := omega) only [w64]); exact ⟨rfl, rfl⟩) (by simp) (by simp; rfl))
              · exact .ret
          · simp
        | apply ARun.seq
          · apply ARun.seq
            · apply ARun.region; repeat (first | exact .nil | apply RO.cons none (by simp [c1, c2]; (try simp (disch := omega) only [w64]); exact ⟨rfl, rfl⟩) (by simp) (by simp; rfl))
            · apply ARun.cond false (by first | (simp; done) | (simp; omega))
              exact .skip
          · have hs := bin_shl h (by omega) (by omega)
            have ho := or_join h (loS l % 4294967296) (by omega) (by omega) (by omega) (by omega)
            apply ARun.seq
            · apply ARun.region; repeat (first | exact .nil | apply RO.cons none (by simp [-absBin, hs, bin_or, ho]; (try simp (disch := omega) only [w64]); exact ⟨rfl, rfl⟩) (by simp) (by simp; rfl))
            · exact .ret
    case hres =>
      simp [resFin, resRun, resVal, RM.bind, ret1, retAt, atPV, resRT, c1, c2]
end Go.Eng.Num
