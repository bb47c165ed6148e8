import Derived.Test.YtimmgdpicjmjjaaENumAdd
import Derived.Test.YtimmgdpicjmjjaaENumTot
namespace Go.Eng.Num
open Go Go.Eng Go.RowKit Go.Proofs
set_option linter.unusedVariables false
set_option linter.unusedSimpArgs false
set_option maxHeartbeats 1000000
set_option maxRecDepth 10000
theorem fn8 : fnOf Try.prog 8 = true := by kernel_rfl
theorem fn9 : fnOf Try.prog 9 = true := by kernel_rfl
theorem fn11 : fnOf Try.prog 11 = true := by kernel_rfl
theorem tot1 : Spec Try.prog 11 [.at (zs [9223372036854775807, 1, -5])] (two (9223372036854775803, 0)) := by
  have h := total_spec [9223372036854775807, 1, -5] (by simp) (by simp [I64])
  have e : tot ([9223372036854775807, 1, -5] : List Int).sum = (9223372036854775803, 0) := by simp [tot]
  rw [e] at h
  exact h
theorem add1 : Spec Try.prog 9 [.at (.int .i64 2), .at (.int .i64 3)] (two (5, 0)) := by
  have h := add_spec 2 3 (by simp [I64]) (by simp [I64])
  have e : tot (2 + 3) = (5, 0) := by simp [tot]
  rw [e] at h
  exact h
theorem awake_spec : Spec Try.prog 8 [] (.one (.at (.pv (.bool true)))) := by
  apply spec_of hE Try.func8 rfl rfl (by simp) (e := .ret) (own := none) (key := 0) (ess := []) (us := [])
  case he => exact .inr rfl
  case hrun =>
    simp only [Try.f8]
    apply ARun.seq
    · apply ARun.region; repeat (first | exact .nil | apply RO.cons none (by simp ; (try simp (disch := omega) only [w64]); exact ⟨rfl, rfl⟩) (by simp) (by simp; rfl))
    apply ARun.seq
    · apply ARun.region
      apply RO.cons none (by simp [ty29, ty2]; (try simp (disch := omega) only [w64]); exact ⟨rfl, rfl⟩) (by simp) (by simp; rfl)
      apply RO.cons (some (two (9223372036854775803, 0))) (by simp [ty29, fn11]; exact ⟨rfl, rfl⟩) (by intro d hd; cases hd; exact tot1) (by simp; rfl)
      repeat (first | exact .nil | apply RO.cons none (by simp ; (try simp (disch := omega) only [w64]); exact ⟨rfl, rfl⟩) (by simp) (by simp; rfl))
    apply ARun.seq
    · apply ARun.region
      apply RO.cons (some (two (5, 0))) (by simp [ty2, fn9]; exact ⟨rfl, rfl⟩) (by intro d hd; cases hd; exact add1) (by simp; rfl)
      repeat (first | exact .nil | apply RO.cons none (by simp ; (try simp (disch := omega) only [w64]); exact ⟨rfl, rfl⟩) (by simp) (by simp; rfl))
    apply ARun.seq
    · apply ARun.region; repeat (first | exact .nil | apply RO.cons none (by simp ; (try simp (disch := omega) only [w64]); exact ⟨rfl, rfl⟩) (by simp) (by simp; rfl))
    · exact .ret
  case hres =>
    simp [resFin, resRun, resVal, RM.bind, ret1, retAt, atPV, resRT]
theorem wf64 {x : Int} (h : (Lit.int .i64 x).wf = true) : I64 x := by
  simp [Lit.wf, IntKind.min, IntKind.max, IntKind.bits, IntKind.signed] at h
  unfold I64
  omega
/-- The list, begun at k. -/
def rot (l : List Int) (k n : Nat) : List Int := (List.range n).map fun a => l.getD ((a + k) % l.length) 0
theorem rot_succ (l : List Int) (k i : Nat) (h : i < l.length) (j : Nat) (hj : j = (i + k) % l.length) (hj2 : j < l.length) : rot l k (i + 1) = rot l k i ++ [l[j]] := by
  unfold rot
  rw [List.range_succ, List.map_append]
  subst hj
  simp [List.getD_eq_getElem?_getD, hj2]
theorem rot_all (l : List Int) (k : Nat) (hk : k < l.length) : rot l k l.length = l.drop k ++ l.take k := by
  apply List.ext_getElem
  · simp [rot]; omega
  · intro a h1 h2
    simp only [rot, List.length_map, List.length_range] at h1
    simp only [rot, List.getElem_map, List.getElem_range, List.getD_eq_getElem?_getD]
    rw [List.getElem_append]
    split
    · rename_i h3
      simp only [List.length_drop] at h3
      rw [Nat.mod_eq_of_lt (by omega), List.getElem?_eq_getElem (by omega), List.getElem_drop]
      simp only [Option.getD_some]
      congr 1
      omega
    · rename_i h3
      simp only [List.length_drop] at h3
      have e : (a + k) % l.length = a + k - l.length := by rw [Nat.mod_eq_sub_mod (by omega), Nat.mod_eq_of_lt (by omega)]
      rw [e, List.getElem?_eq_getElem (by omega), List.getElem_take]
      simp only [Option.getD_some, List.length_drop]
      congr 1
      omega
theorem rot_sum (l : List Int) (k : Nat) (hk : k < l.length) : (rot l k l.length).sum = l.sum := by
  have h := List.take_append_drop k l
  have h2 : (l.take k ++ l.drop k).sum = l.sum := by rw [h]
  rw [List.sum_append] at h2
  rw [rot_all l k hk, List.sum_append]
  omega
theorem rot_mem (l : List Int) (k : Nat) (hk : k < l.length) : ∀ x ∈ rot l k l.length, x ∈ l := by
  rw [rot_all l k hk]
  intro x hx
  rcases List.mem_append.1 hx with h | h
  · exact List.mem_of_mem_drop h
  · exact List.mem_of_mem_take h
theorem bin_rem (kd : IntKind) (a b : Int) (h : b ≠ 0) : absBin .rem (.int kd a) (.int kd b) = some (.int kd (a.tmod b)) := by
  simp [absBin, h]
end Go.Eng.Num
