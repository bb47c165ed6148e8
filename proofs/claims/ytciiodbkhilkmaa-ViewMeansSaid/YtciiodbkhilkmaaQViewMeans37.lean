/- ViewMeans, part 37: RowViewMeans. -/
import Derived.Lib.SliceRun
import Derived.Shelf.SlGeneric
import Derived.Shelf.Sort.Plain
import Derived.Shelf.Slices.CompactS
import Derived.Shelf.Slices.In.SortNone
import Derived.Shelf.SlSortCmp.NoneTotal
import Derived.Ground.NamesProg
import Derived.Ground.SlsfProg
import Derived.Test.YtciiodbkhilkmaaProg
import Derived.OrdersHeld
import Derived.Deep.RegionHeld3
import Derived.Laws.BitsLemmas
import Derived.RowKit
import Derived.Below
import Derived.Deep.Draws
import Derived.Deep.AppendLies
import Derived.Maps.AppendAt
import Derived.OwnWalk
import Derived.Laws.BytesArg
import Derived.Laws.MakeOwn
import Derived.Laws.OwnMore
import Derived.Deep.OwnRows
import Derived.Tactics
import Derived.Lib.ConvBytes
import Derived.Laws.Slices
import Derived.WalkKit
import Derived.KernelRfl
import Derived.RowKit3
import Derived.Deep.LoopGhost
import Derived.Deep.QuietTactic
import Derived.BigQuiet
import Derived.WideLaws
import Derived.Deep.DeepCutAuto
import Derived.Deep.CutBlock
import Derived.Laws.Rows
import Derived.Lib.AppendStr
import Derived.ArgAppend
import Derived.Laws.IdiomCopy
import Derived.Shelf.Abstract
import Derived.Sort.Walk0
import Derived.Laws.StructEq
import Derived.Lib.Strings
import Derived.Test.YtciiodbkhilkmaaRows
import Derived.Deep.Slices
import Derived.ProofKit
import Derived.ChangeArms
import Derived.MapKept
import Derived.StillTailTactics
import Derived.Sort.Grow
import Derived.OpenShut
import Derived.ShutString
import Derived.ChangeOld
import Derived.SizedLaws
import Derived.Carry
import Derived.Test.YtciiodbkhilkmaaQViewMeans0
import Derived.Test.YtciiodbkhilkmaaQViewMeans1
import Derived.Test.YtciiodbkhilkmaaQViewMeans2
import Derived.Test.YtciiodbkhilkmaaQViewMeans3
import Derived.Test.YtciiodbkhilkmaaQViewMeans4
import Derived.Test.YtciiodbkhilkmaaQViewMeans5
import Derived.Test.YtciiodbkhilkmaaQViewMeans6
import Derived.Test.YtciiodbkhilkmaaQViewMeans7
import Derived.Test.YtciiodbkhilkmaaQViewMeans8
import Derived.Test.YtciiodbkhilkmaaQViewMeans9
import Derived.Test.YtciiodbkhilkmaaQViewMeans10
import Derived.Test.YtciiodbkhilkmaaQViewMeans11
import Derived.Test.YtciiodbkhilkmaaQViewMeans12
import Derived.Test.YtciiodbkhilkmaaQViewMeans13
import Derived.Test.YtciiodbkhilkmaaQViewMeans14
import Derived.Test.YtciiodbkhilkmaaQViewMeans15
import Derived.Test.YtciiodbkhilkmaaQViewMeans16
import Derived.Test.YtciiodbkhilkmaaQViewMeans17
import Derived.Test.YtciiodbkhilkmaaQViewMeans18
import Derived.Test.YtciiodbkhilkmaaQViewMeans19
import Derived.Test.YtciiodbkhilkmaaQViewMeans20
import Derived.Test.YtciiodbkhilkmaaQViewMeans21
import Derived.Test.YtciiodbkhilkmaaQViewMeans22
import Derived.Test.YtciiodbkhilkmaaQViewMeans23
import Derived.Test.YtciiodbkhilkmaaQViewMeans24
import Derived.Test.YtciiodbkhilkmaaQViewMeans25
import Derived.Test.YtciiodbkhilkmaaQViewMeans26
import Derived.Test.YtciiodbkhilkmaaQViewMeans27
import Derived.Test.YtciiodbkhilkmaaQViewMeans28
import Derived.Test.YtciiodbkhilkmaaQViewMeans29
import Derived.Test.YtciiodbkhilkmaaQViewMeans30
import Derived.Test.YtciiodbkhilkmaaQViewMeans31
import Derived.Test.YtciiodbkhilkmaaQViewMeans32
import Derived.Test.YtciiodbkhilkmaaQViewMeans33
import Derived.Test.YtciiodbkhilkmaaQViewMeans34
import Derived.Test.YtciiodbkhilkmaaQViewMeans35
import Derived.Test.YtciiodbkhilkmaaQViewMeans36
namespace Go.Proofs.Ytciiodbkhilkmaa.viewMeans
open Go.ChangeShapes Go.WideShapes Go.ChangeAt Go.RowKit Go.Proofs.Ytciiodbkhilkmaa.F
open Go.ChangeMaps (open_string shut_string)
set_option linter.unusedVariables false
theorem own : ownKnob Try.prog.godebug = none := by kernel_rfl
theorem laidOut : laidOutB Try.prog = true := by kernel_rfl
set_option maxRecDepth 100000 in
theorem lifted (os : Os) (started : os.Started) (H : Type) (enc : TypeId × Value → H) :
    ReturnsInHanded {} Try.checked os 9 .any (Rows.viewMeansSpec.pre6 enc Try.prog Try.f9 Rows.viewMeansRow.domain false) (Rows.viewMeansSpec.post enc Try.prog Try.f9 false true false false) := by
  refine returnsInHanded_of_change_sized (C := Try.checked) own started (by kernel_rfl) Try.func9
    (ChangeSpec.witness6 (enc := enc) (C := Try.checked) false ⟨#[], #[.slice none 0 0, .string ByteArray.empty, .string ByteArray.empty, .int .i64 0], []⟩ 8 (by kernel_rfl) (by kernel_rfl) (by kernel_rfl) (by kernel_rfl)) ?_
  intro W base args ds gs before hval0 hW hcnd hsz0 _
  have hval : ∀ (j : Nat) t v, Try.f9.params[j]? = some t → args[j]? = some v → Value.okWide Try.prog W .any base t v := hval0
  have hW' := hW
  obtain ⟨p, q, hA0, hV, rfl, hfz, hnd⟩ := hW
  have hA : DataW.TrodAll enc Try.prog W 0 (fun _ => true) true Try.f9.params.toList args.toList ds p := hA0
  rw [Try.params9] at hA hval
  obtain ⟨v0, vs0, d0, ds0, p0, q0, hargs, rfl, rfl, h0, r0⟩ := trodAll_cons hA
  obtain ⟨v1, vs1, d1, ds1, p1, q1, rfl, rfl, rfl, h1, r1⟩ := trodAll_cons r0
  obtain ⟨v2, vs2, d2, ds2, p2, q2, rfl, rfl, rfl, h2, r2⟩ := trodAll_cons r1
  obtain ⟨v3, vs3, d3, ds3, p3, q3, rfl, rfl, rfl, h3, r3⟩ := trodAll_cons r2
  obtain ⟨rfl, rfl, rfl⟩ := trodAll_nil r3
  obtain rfl : args = #[v0, v1, v2, v3] := by cases args; simp_all
  obtain ⟨rfl, rfl⟩ := trodVars_none hV
  have k0 := h0
  have lt0 : ∀ x ∈ p0, x.block < W.heap.size := by obtain ⟨m, hm⟩ := k0; exact DataW.trod_lt m _ _ _ hm
  obtain ⟨a0, len0, cap0, rfl⟩ := okWide_slice Try.underlying22 (hval 0 22 v0 rfl rfl)
  obtain ⟨fuel0, hf0⟩ := h0
  obtain ⟨l0, rfl, c0, z0, wf0⟩ := open_items hf0
  have k1 := h1
  have lt1 : ∀ x ∈ p1, x.block < W.heap.size := by obtain ⟨m, hm⟩ := k1; exact DataW.trod_lt m _ _ _ hm
  obtain ⟨a1, rfl, _, _, _⟩ := open_string Try.underlying9 (hval 1 9 v1 rfl rfl) h1
  have k2 := h2
  have lt2 : ∀ x ∈ p2, x.block < W.heap.size := by obtain ⟨m, hm⟩ := k2; exact DataW.trod_lt m _ _ _ hm
  obtain ⟨a2, rfl, _, _, _⟩ := open_string Try.underlying9 (hval 2 9 v2 rfl rfl) h2
  have k3 := h3
  have lt3 : ∀ x ∈ p3, x.block < W.heap.size := by obtain ⟨m, hm⟩ := k3; exact DataW.trod_lt m _ _ _ hm
  obtain ⟨a3, rfl, _, _, w3⟩ := open_int Try.underlying3 (hval 3 3 v3 rfl rfl) h3
  clear hA0 hval0 hsz0
  obtain ⟨k, hk⟩ := (vmeans_law l0 a1 a2 a3 wf0).get
  refine (butterylaw11_ViewMeans.calls k a0 cap0 l0 a1 a2 a3 true W z0 c0 hk).mono fun e W' ⟨he, bel⟩ => ?_
  subst he
  exact ⟨_, rfl, _, _, _, [], _, [], hW', trodAll_mk1 (shut_bool Try.underlying4 _), (trodAll_cons_mk (Below.trod laidOut (by kernel_rfl) (of_decide_eq_true (by kernel_rfl)) k0 bel lt0) (trodAll_cons_mk (Below.trod laidOut (by kernel_rfl) (of_decide_eq_true (by kernel_rfl)) k1 bel lt1) (trodAll_cons_mk (Below.trod laidOut (by kernel_rfl) (of_decide_eq_true (by kernel_rfl)) k2 bel lt2) (trodAll_cons_mk (Below.trod laidOut (by kernel_rfl) (of_decide_eq_true (by kernel_rfl)) k3 bel lt3) trodAll_mk0)))), rfl, bel.frame _, fun h => by cases h⟩
theorem over : Rows.viewMeansRow.holds Try.pinned (OpenSpec.ofChange Rows.viewMeansSpec) :=
  OpenClaim.holds_of_wide 9 Try.f9 rfl rfl rfl rfl rfl rfl rfl ⟨rfl, rfl, rfl, rfl, rfl⟩ rfl rfl rfl rfl rfl (by kernel_rfl) Try.func9 (by kernel_rfl)
    (of_decide_eq_true (by kernel_rfl)) (by unfold Func.isWrapper; first | (rw [if_pos (by decide +kernel)]; kernel_rfl) | (rw [if_neg (by decide +kernel)]; exact ⟨rfl, rfl⟩))
    (fun os started H enc _ => lifted os started H enc)
theorem proved : Rows.ViewMeansSaid := over
#print axioms proved
end Go.Proofs.Ytciiodbkhilkmaa.viewMeans
namespace Go.Proofs.Ytciiodbkhilkmaa
theorem viewMeans_holds : Rows.ViewMeansSaid := viewMeans.proved
end Go.Proofs.Ytciiodbkhilkmaa
