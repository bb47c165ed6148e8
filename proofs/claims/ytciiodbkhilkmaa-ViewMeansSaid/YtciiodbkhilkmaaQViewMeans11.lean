/- ViewMeans, part 11: GDelB. -/
import Derived.Lib.SliceRun
import Derived.OrdersHeld
import Derived.Deep.RegionHeld3
import Derived.Laws.BitsLemmas
import Derived.RowKit
import Derived.Test.YtciiodbkhilkmaaProg
import Derived.Below
import Derived.Deep.Draws
import Derived.Deep.AppendLies
import Derived.Maps.AppendAt
import Derived.OwnWalk
import Derived.Laws.BytesArg
import Derived.Laws.MakeOwn
import Derived.Laws.OwnMore
import Derived.Deep.OwnRows
import Derived.Tactics
import Derived.Lib.ConvBytes
import Derived.Laws.Slices
import Derived.WalkKit
import Derived.KernelRfl
import Derived.RowKit3
import Derived.Deep.LoopGhost
import Derived.Deep.QuietTactic
import Derived.BigQuiet
import Derived.WideLaws
import Derived.Deep.DeepCutAuto
import Derived.Deep.CutBlock
import Derived.Laws.Rows
import Derived.Lib.AppendStr
import Derived.ArgAppend
import Derived.Laws.IdiomCopy
import Derived.Shelf.Abstract
import Derived.Laws.StructEq
import Derived.Test.YtciiodbkhilkmaaQViewMeans0
import Derived.Test.YtciiodbkhilkmaaQViewMeans1
import Derived.Test.YtciiodbkhilkmaaQViewMeans2
import Derived.Test.YtciiodbkhilkmaaQViewMeans4
import Derived.Test.YtciiodbkhilkmaaQViewMeans5
namespace Go.Proofs.Ytciiodbkhilkmaa.F
set_option linter.unusedVariables false
set_option linter.unusedSimpArgs false
open Go.RowKit Go.Proofs.YtciiodbkhilkmaaW.PrintWords Go.Proofs.YtciiodbkhilkmaaW.PrintLast Go.Proofs.YtciiodbkhilkmaaW.PrintMore
section
variable {α σ : Type}
def keepS (step : σ → α → Bool × σ) : σ → List α → List α × σ
  | s, [] => ([], s)
  | s, x :: l => if (step s x).1 = true then keepS step (step s x).2 l else (x :: (keepS step (step s x).2 l).1, (keepS step (step s x).2 l).2)
theorem keepS_snoc (step : σ → α → Bool × σ) (x : α) : ∀ (l : List α) (s : σ), keepS step s (l ++ [x]) =
    (if (step (keepS step s l).2 x).1 = true then (keepS step s l).1 else (keepS step s l).1 ++ [x], (step (keepS step s l).2 x).2)
  | [], s => by
    show keepS step s [x] = _
    unfold keepS
    cases (step s x).1 <;> simp [keepS]
  | y :: l, s => by
    show keepS step s (y :: (l ++ [x])) = _
    unfold keepS
    cases h : (step s y).1
    · simp only [Bool.false_eq_true, if_false, keepS_snoc step x l]
      cases h2 : (step (keepS step (step s y).2 l).2 x).1 <;> simp
    · simp only [if_true, keepS_snoc step x l]
theorem keepS_runs (step : σ → α → Bool × σ) : ∀ (l : List α) (s t : σ), Runs step s l t → keepS step s l = (l, t)
  | [], s, t, h => by have h : s = t := h; subst h; rfl
  | x :: l, s, t, h => by
    unfold keepS
    rw [keepS_runs step l _ t h.2, if_neg (by rw [h.1]; simp)]
end
theorem heap_setCells_ne (g k : Nat) (hk : k ≠ g) : ∀ (vs : List Value) (o : Nat) (w : World), (w.setCells g o vs).heap[k]? = w.heap[k]?
  | [], _, _ => rfl
  | v :: r, o, w => by
    show ((w.setCell ⟨g, o, none⟩ v).setCells g (o + 1) r).heap[k]? = _
    rw [heap_setCells_ne g k hk r]
    exact Below.heap_setCell w _ v k hk
theorem setCells_rest (g : Nat) : ∀ (vs : List Value) (o : Nat) (w : World), (w.setCells g o vs).os = w.os ∧ (w.setCells g o vs).tape = w.tape ∧ (w.setCells g o vs).output = w.output ∧ (w.setCells g o vs).heap.size = w.heap.size
  | [], _, _ => ⟨rfl, rfl, rfl, rfl⟩
  | v :: r, o, w => by
    have h := setCells_rest g r (o + 1) (w.setCell ⟨g, o, none⟩ v)
    exact ⟨h.1, h.2.1, h.2.2.1, h.2.2.2.trans (by simp [World.setCell])⟩
theorem heap_setCells_self (g : Nat) (e : TypeId) (fr : Nat × Nat) : ∀ (vs : List Value) (o : Nat) (w : World) (cur : Array Value), w.heap[g]? = some (.cells cur e fr) →
    ∃ cur' : Array Value, (w.setCells g o vs).heap[g]? = some (.cells cur' e fr) ∧ cur'.size = cur.size ∧ ∀ j, j < o → cur'[j]? = cur[j]?
  | [], _, _, cur, h => ⟨cur, h, rfl, fun _ _ => rfl⟩
  | v :: r, o, w, cur, h => by
    have h1 : (w.setCell ⟨g, o, none⟩ v).heap[g]? = some (.cells (cur.setIfInBounds o v) e fr) := by
      simp only [World.setCell, Array.getElem?_modify, h]
      simp
    obtain ⟨cur', hc, hs, hj⟩ := heap_setCells_self g e fr r (o + 1) _ _ h1
    refine ⟨cur', hc, by rw [hs]; simp, fun j hlt => ?_⟩
    rw [hj j (by omega)]
    rw [Array.getElem?_setIfInBounds_ne (by omega)]
theorem own_clear {W : World} {base e size n cap g i : Nat} {xs : List Value} {P : Program} {t : TypeId} {z : Value} (h : W.ownsRow base e size (.slice (some ⟨g, 0, none⟩) n cap) n xs) (hi : i < n)
    (ht : P.underlying t = some (.slice e)) (hz : ∀ w, (zeroValue e).run P w = .ok z w) (hzs : z.cells.size = size) (hz1 : ∀ v ∈ z.cells.toList, v.oneCell' = true) :
    ∃ W', (∀ ty c, (Builtin.clear_ #[t] ty #[.slice (some ⟨g, i * size, none⟩) (n - i) c]).run P W = .ok (.tuple #[]) W') ∧ W'.ownsRow base e size (.slice (some ⟨g, 0, none⟩) i cap) i (xs.take (i * size)) ∧ W.grownBy W' (some g) := by
  obtain ⟨hl, hr⟩ := h
  rcases hr with ⟨hv, _⟩ | ⟨g', cap', cur, hv, hg, hb, h1, h2, h3, h4⟩
  · cases hv
  · injection hv with hv1 hv2 hv3
    injection hv1 with hv1
    injection hv1 with hv1
    subst hv1 hv3
    let zs := (Builtin.zeroCells z.cells (n - i)).toList
    have hzl : zs.length = (n - i) * size := by simp [zs, Builtin.zeroCells, hzs]
    have hzo : ∀ v ∈ zs, v.oneCell' = true := by
      intro v hv
      simp only [zs, Builtin.zeroCells, Array.toList_map, List.mem_map] at hv
      obtain ⟨q, hq, rfl⟩ := hv
      have hq' : q < (n - i) * z.cells.size := by simpa using hq
      have hpos : 0 < z.cells.size := by
        rcases Nat.eq_zero_or_pos z.cells.size with h | h
        · rw [h] at hq'; omega
        · exact h
      have hm := Nat.mod_lt q hpos
      rw [getElem!_pos z.cells _ hm]
      exact hz1 _ (by simp)
    have hfit : i * size + (n - i) * size = n * size := by rw [← Nat.add_mul]; congr 1; omega
    have hns : n * size ≤ cap * size := Nat.mul_le_mul_right _ h1
    refine ⟨W.setCells g (i * size) zs, fun ty c => ?_, ?_, ?_⟩
    · have hst := run_storeCells_cells (P := P) g (i * size) zs 0 W (by
          intro j hj
          rw [hzl] at hj
          simp only [World.cell?, hb, Nat.add_zero]
          rw [Array.getElem?_eq_getElem (by omega)]
          simp) (by
          intro j hj
          simp [World.frozen?, hb]) hzo
      simp only [Nat.add_zero] at hst
      obtain ⟨m, hm⟩ : ∃ m, n - i = m + 1 := ⟨n - i - 1, by omega⟩
      have hz0 : (Builtin.zeroCells z.cells (n - i)).toList = zs := rfl
      clear_value zs
      generalize n - i = q at hm hz0 ⊢
      subst hm
      simp [Builtin.clear_, run_underlying ht, hz, hz0, hst]
    · obtain ⟨cur', hc, hs, hj⟩ := heap_setCells_self g e (0, 0) zs (i * size) W cur hb
      refine ⟨by rw [List.length_take, hl]; exact Nat.min_eq_left (Nat.mul_le_mul_right _ (Nat.le_of_lt hi)), .inr ⟨g, cap, cur', rfl, hg, hc, by omega, h2, by rw [hs]; exact h3, ?_⟩⟩
      rw [← h4, List.take_take, Nat.min_eq_left (Nat.mul_le_mul_right _ (Nat.le_of_lt hi))]
      apply List.ext_getElem?
      intro j
      rw [List.getElem?_take, List.getElem?_take]
      split
      · have := hj j (by assumption)
        simpa using this
      · rfl
    · obtain ⟨a1, a2, a3, a4⟩ := setCells_rest g zs (i * size) W
      exact ⟨a1, a2, a3, by rw [a4]; exact Nat.le_refl _, fun k _ hk => heap_setCells_ne g k (fun e => hk (by rw [e])) zs _ W⟩
end Go.Proofs.Ytciiodbkhilkmaa.F
