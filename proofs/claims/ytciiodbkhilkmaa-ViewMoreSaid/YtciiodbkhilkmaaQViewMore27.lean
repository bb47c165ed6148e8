/- ViewMore, part 27: GOnce. -/
import Derived.Test.YtciiodbkhilkmaaProg
import Derived.Below
import Derived.Deep.Draws
import Derived.Deep.AppendLies
import Derived.Maps.AppendAt
import Derived.OwnWalk
import Derived.Laws.BytesArg
import Derived.Laws.MakeOwn
import Derived.Laws.OwnMore
import Derived.Deep.OwnRows
import Derived.Tactics
import Derived.Lib.ConvBytes
import Derived.Laws.Slices
import Derived.WalkKit
import Derived.KernelRfl
import Derived.RowKit3
import Derived.Deep.LoopGhost
import Derived.Deep.QuietTactic
import Derived.BigQuiet
import Derived.WideLaws
import Derived.Deep.DeepCutAuto
import Derived.Deep.CutBlock
import Derived.Deep.RegionHeld3
import Derived.Laws.Rows
import Derived.Lib.AppendStr
import Derived.ArgAppend
import Derived.Laws.IdiomCopy
import Derived.OrdersHeld
import Derived.Laws.BitsLemmas
import Derived.RowKit
import Derived.Shelf.SlGeneric
import Derived.Shelf.Sort.Plain
import Derived.Shelf.Slices.CompactS
import Derived.Shelf.Slices.In.SortNone
import Derived.Shelf.SlSortCmp.NoneTotal
import Derived.Ground.NamesProg
import Derived.Ground.SlsfProg
import Derived.Shelf.Abstract
import Derived.Lib.SliceRun
import Derived.Laws.StructEq
import Derived.Lib.Strings
import Derived.Test.YtciiodbkhilkmaaQViewMore0
import Derived.Test.YtciiodbkhilkmaaQViewMore21
import Derived.Test.YtciiodbkhilkmaaQViewMore22
import Derived.Test.YtciiodbkhilkmaaQViewMore23
import Derived.Test.YtciiodbkhilkmaaQViewMore24
import Derived.Test.YtciiodbkhilkmaaQViewMore25
import Derived.Test.YtciiodbkhilkmaaQViewMore26
namespace Go.Proofs.Ytciiodbkhilkmaa.F
set_option linter.unusedVariables false
set_option linter.unusedSimpArgs false
open Go.RowKit Go.Sort Go.Proofs.YtciiodbkhilkmaaW.PrintWords Go.Proofs.YtciiodbkhilkmaaW.PrintLast Go.Proofs.YtciiodbkhilkmaaW.PrintMore
def bl (x : ByteArray) : List UInt8 := x.data.toList
def mkB (l : List UInt8) : ByteArray := ⟨l.toArray⟩
theorem mkB_bl (x : ByteArray) : mkB (bl x) = x := rfl
def onceL (l : List ByteArray) : List ByteArray := (Lib.compact ((l.map bl).mergeSort fun x y => decide (x ≤ y))).map mkB
theorem heap_mapBlock (w : World) (g k : Nat) (f : Array Value → Array Value) (h : k ≠ g) : (mapBlock w g f).heap[k]? = w.heap[k]? := by
  simp only [mapBlock, Array.getElem?_modify]
  rw [if_neg (by omega)]
theorem heap_mapBlock_self (w : World) (g : Nat) (f : Array Value → Array Value) {c : Array Value} {e : TypeId} {fr : Nat × Nat} (h : w.heap[g]? = some (.cells c e fr)) : (mapBlock w g f).heap[g]? = some (.cells (f c) e fr) := by
  simp only [mapBlock, Array.getElem?_modify, h]
  simp [onCells]
section
variable {α : Type} [Inhabited α]
theorem put_raw {W : World} {base e size n cap g m : Nat} {xs : List Value} (h : W.ownsRow base e size (.slice (some ⟨g, 0, none⟩) n cap) n xs) (enc : α → Value) (d : Array α) (hd : d.size = n * size) (hm : m ≤ n) (q : Nat) (os : Array Obj) :
    (grow (putRow enc (Sort.ahead W q) g 0 d) os).ownsRow base e size (.slice (some ⟨g, 0, none⟩) m cap) m ((d.toList.map enc).take (m * size)) ∧ Goes W (grow (putRow enc (Sort.ahead W q) g 0 d) os) (fun k => k = g) := by
  obtain ⟨hl, hr⟩ := h
  rcases hr with ⟨hv, _⟩ | ⟨g', cap', cur, hv, hg, hb, h1, h2, h3, h4⟩
  · cases hv
  · injection hv with hv1 hv2 hv3
    injection hv1 with hv1
    injection hv1 with hv1
    subst hv1 hv3
    have hgl := blk_lt hb
    have hms : m * size ≤ n * size := Nat.mul_le_mul_right _ hm
    have hns : n * size ≤ cap * size := Nat.mul_le_mul_right _ h1
    have hsz : (putRow enc (Sort.ahead W q) g 0 d).heap.size = W.heap.size := by simp [putRow, mapBlock, Sort.ahead]
    refine ⟨⟨by rw [List.length_take, List.length_map, Array.length_toList, hd]; omega, .inr ⟨g, cap, putCells enc 0 d cur, rfl, hg, ?_, by omega, h2, by simp [putCells, h3], ?_⟩⟩, ⟨⟨?_, ?_⟩, ⟨rfl, rfl, rfl, ?_, fun k hk => absurd hk (Nat.not_lt_zero _)⟩⟩⟩
    · rw [heap_grow_old _ _ (by rw [hsz]; exact hgl)]
      exact heap_mapBlock_self _ _ _ hb
    · apply List.ext_getElem?
      intro j
      rw [List.getElem?_take, List.getElem?_take]
      split
      · rename_i hj
        rw [Array.getElem?_toList]
        simp only [putCells, Array.getElem?_mapIdx, List.getElem?_map, Array.getElem?_toList]
        rw [Array.getElem?_eq_getElem (show j < cur.size by omega), Array.getElem?_eq_getElem (show j < d.size by omega)]
        simp only [Option.map_some, Nat.zero_le, true_and, Nat.zero_add, Nat.sub_zero]
        rw [if_pos (by omega), getElem!_pos d j (by omega)]
      · rfl
    · simp [grow, hsz]
    · intro i hi hn
      rw [heap_grow_old _ _ (by rw [hsz]; exact hi)]
      exact heap_mapBlock _ _ _ _ hn
    · simp [grow, hsz]
end
theorem holds_str {w : World} {base g cap : Nat} {ok : Nat → Prop} {l : List ByteArray} (h : Kd.R Kd.string 9 w base ok (.slice (some ⟨g, 0, none⟩) l.length cap) l) : Holds encStr w g 0 (l.map bl).toArray := by
  intro j hj
  have hj' : j < l.length := by simpa using hj
  have hc := (Kd.R_reads' h).2.2
  obtain ⟨ad, e, hcell⟩ := Kd.at_string hc (j : Int) (by omega) (by omega)
  injection e with e
  subst e
  rw [rdOf_get _ l j hj', Int.toNat_natCast, Addr.add_lit, Nat.zero_add] at hcell
  rw [Nat.zero_add]
  refine ⟨?_, ?_⟩
  · rw [hcell, getElem!_pos _ j hj]
    simp only [List.getElem_toArray, List.getElem_map]
    rfl
  · obtain ⟨_, inner, hown, _⟩ := h
    rcases hown.2 with ⟨hv, _⟩ | ⟨g', cap', cur, hv, hg, hb, _⟩
    · cases hv
    · injection hv with hv1
      injection hv1 with hv1
      injection hv1 with hv1
      subst hv1
      simp [World.frozen?, hb]
theorem put_str {w : World} {base g cap m : Nat} {ok : Nat → Prop} {l : List ByteArray} (h : Kd.R Kd.string 9 w base ok (.slice (some ⟨g, 0, none⟩) l.length cap) l) (d : Array (List UInt8)) (hd : d.size = l.length) (hm : m ≤ l.length) (q : Nat) (os : Array Obj) :
    Kd.R Kd.string 9 (grow (putRow encStr (Sort.ahead w q) g 0 d) os) base ok (.slice (some ⟨g, 0, none⟩) m cap) ((d.toList.take m).map mkB) ∧ Goes w (grow (putRow encStr (Sort.ahead w q) g 0 d) os) (fun k => k = g) := by
  obtain ⟨hok, inner, hown, _⟩ := h
  obtain ⟨h1, h2⟩ := put_raw hown encStr d (by rw [hd]; exact (Nat.mul_one _).symm) hm q os
  have e : (d.toList.map encStr).take (m * Kd.string.sz) = encs Value.string ((d.toList.take m).map mkB) := by
      rw [show m * Kd.string.sz = m from Nat.mul_one m, ← List.map_take]
      simp only [encs, List.map_map]
      rfl
  rw [e] at h1
  refine ⟨⟨hok, encs Value.string ((d.toList.take m).map mkB), ?_, Kd.reps_scalar _⟩, h2⟩
  rw [List.length_map, List.length_take, Array.length_toList, hd, Nat.min_eq_left hm]
  exact h1
theorem compact_le (zs : List (List UInt8)) : (Lib.compact zs).length ≤ zs.length := by
  unfold Lib.compact Lib.compactUpTo
  rw [List.length_map]
  exact Nat.le_trans (List.length_filter_le _ _) (by simp)
theorem sort_str (v : Value) (l : List ByteArray) (base : Nat) (ok : Nat → Prop) (w : World) (h : Kd.R Kd.string 9 w base ok v l) (hl : l.length < lim) :
    Calls Try.prog 88 #[v] w fun e w' => e = .returned (.tuple #[]) ∧ Kd.R Kd.string 9 w' base ok v (((l.map bl).mergeSort fun x y => decide (x ≤ y)).map mkB) ∧ Goes w w' (fun k => v.ownBlock = some k) := by
  obtain ⟨A, cap, rfl, hle, _⟩ := Kd.R_reads h
  have h0 := h
  obtain ⟨_, inner, hown, _⟩ := h0
  have hown' := hown
  rcases hown'.2 with ⟨hv, hn⟩ | ⟨g, cap', cur, hv, hg, hb, _⟩
  · obtain rfl : l = [] := List.length_eq_zero_iff.1 hn
    refine (Any.slices_Sort_string_none Try.laySort A cap w).mono ?_
    rintro e w' ⟨he, rfl⟩
    exact ⟨he, by simpa using h, Goes.refl _ _⟩
  · injection hv with hv1 hv2 hv3
    subst hv1 hv3
    have hh := holds_str h
    refine (show Calls Try.prog 88 _ _ _ from ?_)
    have hc := Any.slices_Sort_string Try.laySort g 0 cap (l.map bl) w hh (blk_lt hb) (by rw [List.length_map]; unfold lim at hl; omega)
    rw [List.length_map] at hc
    refine hc.mono ?_
    rintro e w' ⟨he, n, os, rfl⟩
    have hp := put_str h ((l.map bl).mergeSort fun x y => decide (x ≤ y)).toArray (by simp) (Nat.le_refl l.length) n os
    refine ⟨he, ?_, hp.2.mono fun k hk => by rw [hk]; rfl⟩
    have h1 := hp.1
    rw [List.take_of_length_le (by simp)] at h1
    exact h1
theorem compact_str (v : Value) (l : List ByteArray) (base : Nat) (ok : Nat → Prop) (w : World) (h : Kd.R Kd.string 9 w base ok v l) (hl : l.length < lim) :
    Calls Try.prog 89 #[v] w fun e w' => ∃ v1, e = .returned v1 ∧ Kd.R Kd.string 9 w' base ok v1 ((Lib.compact (l.map bl)).map mkB) ∧ Goes w w' (fun k => v.ownBlock = some k) := by
  obtain ⟨A, cap, rfl, hle, _⟩ := Kd.R_reads h
  have h0 := h
  obtain ⟨_, inner, hown, _⟩ := h0
  have hown' := hown
  rcases hown'.2 with ⟨hv, hn⟩ | ⟨g, cap', cur, hv, hg, hb, _⟩
  · obtain rfl : l = [] := List.length_eq_zero_iff.1 hn
    refine (Any.slices_Compact_string_empty Try.layCompact A cap w).mono ?_
    rintro e w' ⟨he, rfl⟩
    exact ⟨_, he, by simpa [Lib.compact, Lib.compactUpTo] using h, Goes.refl _ _⟩
  · injection hv with hv1 hv2 hv3
    subst hv1 hv3
    have hh := holds_str h
    have hc := Any.slices_Compact_string Try.layCompact g 0 cap (l.map bl) w hh (by rw [List.length_map]; unfold lim at hl; omega) (by rw [List.length_map]; exact hle)
    rw [List.length_map] at hc
    refine hc.mono ?_
    rintro e w' ⟨he, q, rfl⟩
    have hcl := compact_le (l.map bl)
    rw [List.length_map] at hcl
    have hp := put_str h (Lib.compact (l.map bl) ++ List.replicate (l.length - (Lib.compact (l.map bl)).length) []).toArray (by simp; omega) hcl q #[]
    rw [grow_empty] at hp
    refine ⟨_, he, ?_, hp.2.mono fun k hk => by rw [hk]; rfl⟩
    have h1 := hp.1
    have e : ((Lib.compact (l.map bl) ++ List.replicate (l.length - (Lib.compact (l.map bl)).length) ([] : List UInt8)).toArray.toList.take (Lib.compact (l.map bl)).length) = Lib.compact (l.map bl) := by simp
    rw [e] at h1
    exact h1
def view_once.f (l0 : List ByteArray) : Option (List ByteArray) := if l0.length < lim then some (onceL l0) else none
theorem view_once.calls (P0_ : Nat → Prop) (u9000_ : Value) (l0 : List ByteArray) (r : List ByteArray) (w0 w : World) (hB : Below w0.heap.size w0 w) (ho0 : Kd.R Kd.string 9 w w0.heap.size P0_ u9000_ l0) (h : view_once.f l0 = some r) :
    Calls Try.prog 62 #[u9000_] w fun e w' => ∃ v0_ : Value, e = .returned (v0_) ∧ Kd.R Kd.string 9 w' w0.heap.size (fun k_ => (P0_ k_ ∨ w.heap.size ≤ k_)) v0_ r ∧ Below w0.heap.size w0 w' ∧ Kept w w' (fun k_ => P0_ k_) := by
  unfold view_once.f at h
  split at h
  case isFalse => cases h
  rename_i hl
  obtain rfl := Option.some.inj h
  clear h
  have hob : ∀ k, u9000_.ownBlock = some k → w0.heap.size ≤ k ∧ P0_ k := fun k hk => by
    obtain ⟨hok, inner, hown, _⟩ := ho0
    exact ⟨own_base hown k hk, hok k hk⟩
  have hs := sort_str u9000_ l0 w0.heap.size P0_ w ho0 hl
  have HOB := Aside0.mk hob
  have HB0 := Aside0.mk hB
  clear ho0 hob hB
  go_enter Try.func62, Try.ntmps62
  go_wp2_with fail
  refine hs.mono ?_
  rintro e w1 ⟨rfl, hR1, hg1⟩
  have hc := compact_str u9000_ _ w0.heap.size P0_ w1 hR1 (by simpa using hl)
  have HG1 := Aside0.mk hg1
  clear hR1 hg1 hs
  go_wp2_with fail
  refine hc.mono ?_
  rintro e w2 ⟨v2, rfl, hR2, hg2⟩
  have HR2 := Aside0.mk hR2
  have HG2 := Aside0.mk hg2
  clear hR2 hg2 hc
  go_wp2
  go_ret
  have hg := HG1.out.trans HG2.out
  refine ⟨_, rfl, ?_, hg.below HB0.out HB0.out.size fun k hk => (HOB.out k hk).1, hg.kept.mono fun k hk => (HOB.out k hk).2⟩
  refine Kd.R_mono ?_ fun k hk => .inl hk
  unfold onceL
  have h1 := HR2.out
  rw [List.map_map] at h1
  rw [show ((((l0.map bl).mergeSort fun x y => decide (x ≤ y)).map (bl ∘ mkB))) = (l0.map bl).mergeSort fun x y => decide (x ≤ y) from List.map_id _] at h1
  exact h1
end Go.Proofs.Ytciiodbkhilkmaa.F
