/- slices.Sort and slices.Compact over texts, as the engine's contracts. -/
import Derived.Test.YtiliffhopdiepaaGreatE11
import Derived.Test.YtiliffhopdiepaaGreatLay
namespace Go.E2.Lib
open Go Go.E2 Go.RowKit Go.Sort Go.Proofs
set_option linter.unusedVariables false
set_option linter.unusedSimpArgs false
def mkB (l : List UInt8) : ByteArray := ⟨l.toArray⟩
theorem mkB_bl (x : ByteArray) : mkB (bl x) = x := rfl
def sortB (l : List ByteArray) : List ByteArray := ((l.map bl).mergeSort fun x y => decide (x ≤ y)).map mkB
def compB (l : List ByteArray) : List ByteArray := (Lib.compact (l.map bl)).map mkB
theorem compact_le (zs : List (List UInt8)) : (Lib.compact zs).length ≤ zs.length := by
  unfold Lib.compact Lib.compactUpTo
  rw [List.length_map]
  exact Nat.le_trans (List.length_filter_le _ _) (by simp)
theorem encS_get {l : List ByteArray} {j : Nat} {x : List PV} (h : (l.map encS)[j]? = some x) : ∃ s, l[j]? = some s ∧ x = [.str s] := by
  obtain ⟨s, hs, rfl⟩ := map_get h
  exact ⟨s, hs, rfl⟩
theorem wide_S (l : List ByteArray) : Wide 1 (l.map encS) := fun j x hx => by
  obtain ⟨s, _, rfl⟩ := encS_get hx
  rfl
section
variable {w : World} {c0 : Con} {l : List ByteArray} {b : Nat} {cs : Array Value} {ty : TypeId}
theorem holds_S {G : Gh} (hh : w.heap[b]? = some (.cells cs ty (0, 0))) (hn : l.length ≤ cs.size)
    (hr : ∀ (j : Nat) (x : List PV) (i : Nat) (y : PV), (l.map encS)[j]? = some x → x[i]? = some y → Rep G y (cs.getD (j * 1 + i) undef)) : Holds encStr w b 0 (l.map bl).toArray := by
  intro j hj
  have hj' : j < l.length := by simpa using hj
  have h1 := hr j [.str l[j]] 0 (.str l[j]) (by simp [hj']) rfl
  rw [Nat.mul_one, Nat.add_zero] at h1
  have h2 := rep_str h1
  refine ⟨?_, ?_⟩
  · rw [Nat.zero_add, cell_of_blk hh, get_of_getD (by omega), h2, getElem!_pos _ j hj]
    simp only [List.getElem_toArray, List.getElem_map]
    rfl
  · exact frozen_blk hh
theorem wrote_put (hb : b < w.heap.size) (d : Array (List UInt8)) (q : Nat) (os : Array Obj) : Wrote w (grow (putRow encStr (Sort.ahead w q) b 0 d) os) b := by
  have hsz : (putRow encStr (Sort.ahead w q) b 0 d).heap.size = w.heap.size := by simp [putRow, mapBlock, Sort.ahead]
  refine ⟨rfl, rfl, rfl, by simp [grow, hsz], fun k hk hn => ?_, by simp [grow, putRow, mapBlock, Sort.ahead]⟩
  simp only [grow]
  rw [Array.getElem?_append_left (by rw [hsz]; exact hk)]
  simp only [putRow, mapBlock, Sort.ahead, Array.getElem?_modify]
  rw [if_neg (by omega)]
theorem heap_put (hh : w.heap[b]? = some (.cells cs ty (0, 0))) (d : Array (List UInt8)) (q : Nat) (os : Array Obj) : (grow (putRow encStr (Sort.ahead w q) b 0 d) os).heap[b]? = some (.cells (putCells encStr 0 d cs) ty (0, 0)) := by
  have hb := (Array.getElem?_eq_some_iff.1 hh).1
  simp only [grow]
  rw [Array.getElem?_append_left (by simp [putRow, mapBlock, Sort.ahead]; exact hb)]
  simp only [putRow, mapBlock, Sort.ahead, Array.getElem?_modify, hh]
  simp [onCells]
theorem put_rep {G : Gh} (d : List (List UInt8)) (m : List ByteArray) (hm : m = (d.take m.length).map mkB) (hn : d.length ≤ cs.size) : ∀ (j : Nat) (x : List PV) (i : Nat) (y : PV), (m.map encS)[j]? = some x → x[i]? = some y → Rep G y ((putCells encStr 0 d.toArray cs).getD (j * 1 + i) undef) := by
  intro j x i y hx hy
  obtain ⟨s, hs, rfl⟩ := encS_get hx
  match i, hy with
  | 0, hy =>
    cases hy
    rw [Nat.mul_one, Nat.add_zero]
    rw [hm] at hs
    obtain ⟨z, hz, rfl⟩ := map_get hs
    have hz' := (List.getElem?_eq_some_iff.1 hz)
    obtain ⟨hjl, hz'⟩ := hz'
    rw [List.getElem_take] at hz'
    have hjd : j < d.length := by rw [List.length_take] at hjl; omega
    have e : (putCells encStr 0 d.toArray cs).getD j undef = encStr z := by
      simp only [putCells, Array.getD_eq_getD_getElem?, Array.getElem?_mapIdx, Array.getElem?_eq_getElem (show j < cs.size by omega), Option.map_some, Option.getD_some]
      rw [if_pos (by simp; exact hjd), Nat.sub_zero, getElem!_pos _ j (by simpa using hjd)]
      simp [hz']
    rw [e]
    exact Rep.str _
end
theorem sort_spec (l : List ByteArray) (hl : l.length < 4000000000000000000) : Spec Tryz.prog 224 [.at (.row pinN 0)] [.row true 1 (l.map encS)] (.tup []) [some (.row true 1 ((sortB l).map encS))] := by
  intro w c0 vs hin hsz hargs
  obtain ⟨v, rfl⟩ : ∃ v, vs = #[v] := by
    match vs, hsz with
    | ⟨[v]⟩, _ => exact ⟨v, rfl⟩
  have hv : v = _ := row_val (hargs 0 _ rfl)
  rw [hv]
  rcases row_in hin with ⟨h1, h2, h3⟩ | ⟨b, cs, ty, h1, h2, h3, h4, h5, h6, h7⟩
  · obtain rfl : l = [] := by simpa using h2
    rw [h1]
    refine (Any.slices_Sort_string_none Tryz.laySort none 0 w).mono ?_
    rintro e w' ⟨rfl, rfl⟩
    have e : (sortB []).map encS = [] := by simp [sortB]
    rw [e]
    exact ⟨_, c0, rfl, out_same hin rfl⟩
  · rw [h1]
    rw [List.length_map] at h3
    have hlen : (l.map encS).length = (l.map bl).length := by simp
    have hh := holds_S h2 (by omega) h6
    have hbl := (Array.getElem?_eq_some_iff.1 h2).1
    have hc := Any.slices_Sort_string Tryz.laySort b 0 (c0.cp pinN) (l.map bl) w hh hbl (by rw [List.length_map]; omega)
    rw [← hlen] at hc
    refine hc.mono ?_
    rintro e w' ⟨rfl, n, os, rfl⟩
    have hsl : (sortB l).length = l.length := by simp [sortB]
    refine ⟨_, c0, rfl, out_inplace hin h1 h7 (wrote_put hbl _ n os) (heap_put h2 _ n os) (by simp [putCells, h4]) (by simp [hsl]) (by simpa using h3) (wide_S _) (put_rep _ _ ?_ (by simp; omega)) rfl⟩
    rw [hsl, List.take_of_length_le (by simp)]
    rfl
theorem compact_spec (l : List ByteArray) (hl : l.length < 4000000000000000000) : Spec Tryz.prog 225 [.at (.row pinN 0)] [.row true 1 (l.map encS)] (.one (.at (.row (pinN + 1) 0))) [none, some (.row true 1 ((compB l).map encS))] := by
  intro w c0 vs hin hsz hargs
  obtain ⟨v, rfl⟩ : ∃ v, vs = #[v] := by
    match vs, hsz with
    | ⟨[v]⟩, _ => exact ⟨v, rfl⟩
  have hv : v = _ := row_val (hargs 0 _ rfl)
  rw [hv]
  rcases row_in hin with ⟨h1, h2, h3⟩ | ⟨b, cs, ty, h1, h2, h3, h4, h5, h6, h7⟩
  · obtain rfl : l = [] := by simpa using h2
    rw [h1]
    refine (Any.slices_Compact_string_empty Tryz.layCompact none 0 w).mono ?_
    rintro e w' ⟨rfl, rfl⟩
    obtain ⟨c, hc⟩ := out_back (v := .slice none 0 0) hin (by rw [h1]; rfl)
    exact ⟨_, c, rfl, hc⟩
  · rw [h1]
    rw [List.length_map] at h3
    have hlen : (l.map encS).length = (l.map bl).length := by simp
    have hh := holds_S h2 (by omega) h6
    have hbl := (Array.getElem?_eq_some_iff.1 h2).1
    have hc := Any.slices_Compact_string Tryz.layCompact b 0 (c0.cp pinN) (l.map bl) w hh (by rw [List.length_map]; omega) (by rw [List.length_map]; exact h3.1)
    rw [← hlen] at hc
    refine hc.mono ?_
    rintro e w' ⟨rfl, q, rfl⟩
    have hcl := compact_le (l.map bl)
    rw [List.length_map] at hcl
    have hsl : (compB l).length = (Lib.compact (l.map bl)).length := by simp [compB]
    obtain ⟨c, ho⟩ := out_moved (ys := (compB l).map encS) (v := .slice (some ⟨b, 0, none⟩) (Lib.compact (l.map bl)).length (c0.cp pinN)) hin h1 h7 (wrote_put hbl _ q #[]) (heap_put h2 _ q #[]) (by simp [putCells, h4]) (by rw [List.length_map, hsl]; omega) (wide_S _) (put_rep (Lib.compact (l.map bl) ++ List.replicate ((l.map bl).length - (Lib.compact (l.map bl)).length) []) (compB l) (by
      rw [hsl, List.take_left]
      rfl) (by simp; omega)) (by rw [List.length_map, hsl])
    rw [grow_empty, ← hlen] at ho
    exact ⟨_, c, rfl, ho⟩
theorem encS_inj : ∀ {l m : List ByteArray}, l.map encS = m.map encS → l = m
  | [], [], _ => rfl
  | [], _ :: _, h => by simp at h
  | _ :: _, [], h => by simp at h
  | x :: l, y :: m, h => by
    simp only [List.map_cons, List.cons.injEq, PV.str.injEq, and_true] at h
    rw [h.1, encS_inj h.2]
def okS (l : List ByteArray) : Prop := l.length < 4000000000000000000
def rowS (l : List ByteArray) : List AObj := [.row true 1 (l.map encS)]
theorem rowS_inj {l m : List ByteArray} (h : rowS l = rowS m) : l = m := encS_inj (by simpa [rowS] using h)
noncomputable def libSort : LibFn := fun _ => given okS (fun _ => [.at (.row pinN 0)]) rowS fun l => (.tup [], [some (.row true 1 ((sortB l).map encS))])
noncomputable def libCompact : LibFn := fun _ => given okS (fun _ => [.at (.row pinN 0)]) rowS fun l => (.one (.at (.row (pinN + 1) 0)), [none, some (.row true 1 ((compB l).map encS))])
theorem good_sort : LibGood Tryz.prog 224 libSort := libGood_given sort_spec
theorem good_compact : LibGood Tryz.prog 225 libCompact := libGood_given compact_spec
theorem sort_at (H : Hand) (l : List ByteArray) (hl : l.length < 4000000000000000000) : libSort H [.at (.row pinN 0)] [.row true 1 (l.map encS)] = some (.tup [], [some (.row true 1 ((sortB l).map encS))]) :=
  given_at (i := l) (fun i j _ h => by rw [rowS_inj h]) hl
theorem compact_at (H : Hand) (l : List ByteArray) (hl : l.length < 4000000000000000000) : libCompact H [.at (.row pinN 0)] [.row true 1 (l.map encS)] = some (.one (.at (.row (pinN + 1) 0)), [none, some (.row true 1 ((compB l).map encS))]) :=
  given_at (i := l) (fun i j _ h => by rw [rowS_inj h]) hl
end Go.E2.Lib
