/- The row of CacheOldest: what was used is put away behind what was not -/
import Derived.Test.YtiliffhopdiepaaRows
import Derived.Test.YtiliffhopdiepaaVC7
import Derived.Test.YtiliffhopdiepaaVOpen
import Derived.WalkKit
import Derived.ProofKit
import Derived.OpenShut
import Derived.ShutString
import Derived.ChangeOld
import Derived.Below
import Derived.SizedLaws
import Derived.Carry
namespace Go.Proofs.Ytiliffhopdiepaa.cacheOldest
open Go.ChangeShapes Go.WideShapes Go.ChangeAt Go.RowKit Go.E2 Go.E2.S
open Go.ChangeMaps (open_string shut_string)
set_option linter.unusedVariables false
set_option linter.unusedSimpArgs false
theorem own : ownKnob Try.prog.godebug = none := by kernel_rfl
theorem laidOut : laidOutB Try.prog = true := by kernel_rfl
set_option maxRecDepth 100000 in
theorem lifted (os : Os) (started : os.Started) (H : Type) (enc : TypeId × Value → H) :
    ReturnsInHanded {} Try.checked os 3 .any (Rows.cacheOldestSpec.pre6 enc Try.prog Try.f3 Rows.cacheOldestRow.domain false) (Rows.cacheOldestSpec.post enc Try.prog Try.f3 false true false false) := by
  refine returnsInHanded_of_change_sized (C := Try.checked) own started (by kernel_rfl) Try.func3
    (ChangeSpec.witness6 (enc := enc) (C := Try.checked) false ⟨#[], #[.bool false], []⟩ 8 (by kernel_rfl) (by kernel_rfl) (by kernel_rfl) (by kernel_rfl)) ?_
  intro W base args ds gs before hval0 hW hcnd hsz0 _
  have hval : ∀ (j : Nat) t v, Try.f3.params[j]? = some t → args[j]? = some v → Value.okWide Try.prog W .any base t v := hval0
  have hW' := hW
  obtain ⟨p, q, hA0, hV, rfl, hfz, hnd⟩ := hW
  have hA : DataW.TrodAll enc Try.prog W 0 (fun _ => true) true Try.f3.params.toList args.toList ds p := hA0
  rw [Try.params3] at hA hval
  obtain ⟨v0, vs0, d0, ds0, p0, q0, hargs, rfl, rfl, h0, r0⟩ := trodAll_cons hA
  obtain ⟨rfl, rfl, rfl⟩ := trodAll_nil r0
  obtain rfl : args = #[v0] := by cases args; simp_all
  obtain ⟨rfl, rfl⟩ := trodVars_none hV
  have k0 := h0
  have lt0 : ∀ x ∈ p0, x.block < W.heap.size := by obtain ⟨m, hm⟩ := k0; exact DataW.trod_lt m _ _ _ hm
  obtain ⟨a0, rfl⟩ := openBool Try.underlying4 (hval 0 4 v0 rfl rfl)
  obtain ⟨fuel0, hf0⟩ := h0
  obtain ⟨x0, w0, hl0, hr0⟩ := oB hf0
  clear hA0 hval0 hsz0
  have hrep : ∀ (i : Nat) (x : V1), ([bv x0] : List V1)[i]? = some x → RepV1 (obsL []) ⟨fun _ => none, fun _ => 0, allOf W⟩ x ((#[.bool a0] : Array Value).getD i undef) := fun i x hx => by
    match i, hx with
    | 0, hx => cases hx; exact rep_at (hr0 0 _ rfl)
  refine (Spec.law (ans_spec hE hL (oldest x0)) rfl hrep).mono fun e W' ⟨he, bel⟩ => ?_
  subst he
  exact ⟨_, rfl, _, _, _, [], _, [], hW', trodAll_mk1 (shut_bool Try.underlying4 _), (trodAll_cons_mk (Below.trod laidOut (by kernel_rfl) (of_decide_eq_true (by kernel_rfl)) k0 bel lt0) trodAll_mk0), rfl, bel.frame _, fun h => by cases h⟩
theorem over : Rows.cacheOldestRow.holds Try.pinned (OpenSpec.ofChange Rows.cacheOldestSpec) :=
  OpenClaim.holds_of_wide 3 Try.f3 rfl rfl rfl rfl rfl rfl rfl ⟨rfl, rfl, rfl, rfl, rfl⟩ rfl rfl rfl rfl rfl (by kernel_rfl) Try.func3 (by kernel_rfl)
    (of_decide_eq_true (by kernel_rfl)) (by unfold Func.isWrapper; first | (rw [if_pos (by decide +kernel)]; kernel_rfl) | (rw [if_neg (by decide +kernel)]; exact ⟨rfl, rfl⟩))
    (fun os started H enc _ => lifted os started H enc)
theorem proved : Rows.CacheOldestSaid := over
#print axioms proved
end Go.Proofs.Ytiliffhopdiepaa.cacheOldest
namespace Go.Proofs.Ytiliffhopdiepaa
/-- The row, under a short name, for the claim. -/
theorem cacheOldest_holds : Rows.CacheOldestSaid := cacheOldest.proved
end Go.Proofs.Ytiliffhopdiepaa
