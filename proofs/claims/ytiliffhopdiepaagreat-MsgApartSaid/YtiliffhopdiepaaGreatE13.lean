/- The engine, part 13: VSortF. -/
import Derived.Shelf.SlSortCmp.NoneTotal
import Derived.Test.YtiliffhopdiepaaGreatE12
namespace Go.E2
open Go.RowKit Go.Sort Go.Proofs Go.Shelf
set_option linter.unusedVariables false
set_option linter.unusedSimpArgs false
variable {P : Program}
def scalar : PV → Bool
  | .int _ _ => true
  | .bool _ => true
  | .str _ => true
  | _ => false
theorem scalar_rep {G : Gh} {p : PV} {v : Value} (hs : scalar p = true) (h : Rep G p v) : v = toV p := by
  cases h <;> first | rfl | (simp [scalar] at hs)
theorem rep_scalar {G : Gh} {p : PV} (hs : scalar p = true) : Rep G p (toV p) := by
  cases p <;> first | (simp [scalar] at hs; done) | exact .int _ _ | exact .bool _ | exact .str _
theorem scalar_one {p : PV} (hs : scalar p = true) : (toV p).oneCell' = true := rep_one (rep_scalar (G := fun _ _ => none) hs)
def cmpA (H : Hand) (g : FuncId) (x y : List PV) : Option Int := match H g [.agg (x.map .pv), .agg (y.map .pv)] [] with
  | some (.one (.at (.pv (.int .i64 n))), []) => some n
  | _ => none
def cmpOf (H : Hand) (g : FuncId) (x y : List PV) : Int := (cmpA H g x y).getD 0
structure Tells (H : Hand) (g : FuncId) (xs : List (List PV)) : Prop where
  ans : ∀ x ∈ xs, ∀ y ∈ xs, ∃ n, cmpA H g x y = some n
  irr : ∀ x ∈ xs, ¬ cmpOf H g x x < 0
  trans : ∀ x ∈ xs, ∀ y ∈ xs, ∀ z ∈ xs, cmpOf H g x y < 0 → cmpOf H g y z < 0 → cmpOf H g x z < 0
  ntrans : ∀ x ∈ xs, ∀ y ∈ xs, ∀ z ∈ xs, ¬ cmpOf H g x y < 0 → ¬ cmpOf H g y z < 0 → ¬ cmpOf H g x z < 0
  total : ∀ x ∈ xs, ∀ y ∈ xs, ¬ cmpOf H g x y < 0 → ¬ cmpOf H g y x < 0 → x = y
def sortOf (H : Hand) (g : FuncId) (xs : List (List PV)) : List (List PV) := xs.mergeSort fun x y => !decide (cmpOf H g y x < 0)
theorem Fr.grown {w w' : World} {S : Nat → Prop} (h : Fr S w w') (hS : ∀ b, ¬ S b) : ∃ q os, w' = grow (w.drewN q) os := by
  refine ⟨w'.drawn - w.drawn, w'.heap.extract w.heap.size w'.heap.size, ?_⟩
  have hh : w'.heap = w.heap ++ w'.heap.extract w.heap.size w'.heap.size := by
    apply Array.ext_getElem?
    intro i
    by_cases hi : i < w.heap.size
    · rw [Array.getElem?_append_left hi]
      exact h.block i hi (hS i)
    · rw [Array.getElem?_append_right (by omega), Array.getElem?_extract]
      by_cases hl : i < w'.heap.size
      · rw [if_pos (by omega), show w.heap.size + (i - w.heap.size) = i by omega]
      · rw [if_neg (by omega), Array.getElem?_eq_none (by omega)]
  have hd : w'.drawn = w.drawn + (w'.drawn - w.drawn) := by have := h.drawn; omega
  obtain ⟨heap, tape, drawn, os, out⟩ := w
  obtain ⟨heap', tape', drawn', os', out'⟩ := w'
  have h1 := h.os
  have h2 := h.tape
  have h3 := h.output
  simp only at h1 h2 h3 hh hd
  subst h1 h2 h3
  simp only [grow, World.drewN]
  rw [← hd, ← hh]
theorem wrote_putG {α : Type} [Inhabited α] {w : World} {b : Nat} (enc : α → Value) (hb : b < w.heap.size) (d : Array α) (q : Nat) (os : Array Obj) : Wrote w (grow (putRow enc (Sort.ahead w q) b 0 d) os) b := by
  have hsz : (putRow enc (Sort.ahead w q) b 0 d).heap.size = w.heap.size := by simp [putRow, mapBlock, Sort.ahead]
  refine ⟨rfl, rfl, rfl, by simp [grow, hsz], fun k hk hn => ?_, by simp [grow, putRow, mapBlock, Sort.ahead]⟩
  simp only [grow]
  rw [Array.getElem?_append_left (by rw [hsz]; exact hk)]
  simp only [putRow, mapBlock, Sort.ahead, Array.getElem?_modify]
  rw [if_neg (by omega)]
theorem heap_putG {α : Type} [Inhabited α] {w : World} {b : Nat} {cs : Array Value} {ty : TypeId} (enc : α → Value) (hh : w.heap[b]? = some (.cells cs ty (0, 0))) (d : Array α) (q : Nat) (os : Array Obj) : (grow (putRow enc (Sort.ahead w q) b 0 d) os).heap[b]? = some (.cells (putCells enc 0 d cs) ty (0, 0)) := by
  have hb := (Array.getElem?_eq_some_iff.1 hh).1
  simp only [grow]
  rw [Array.getElem?_append_left (by simp [putRow, mapBlock, Sort.ahead]; exact hb)]
  simp only [putRow, mapBlock, Sort.ahead, Array.getElem?_modify, hh]
  simp [onCells]
section
variable {ρ : Ren} {H : Hand} {g : FuncId} {k : Nat} {xs : List (List PV)}
abbrev Elt (xs : List (List PV)) := { x : List PV // x ∈ xs }
def encE (x : Elt xs) : List Value := x.1.map toV
def cmpE (H : Hand) (g : FuncId) (x y : Elt xs) : Int := cmpOf H g x.1 y.1
theorem tells_swo (h : Tells H g xs) : SWO (ltOf (cmpE (xs := xs) H g)) where
  irrefl x := by unfold ltOf cmpE; simpa using h.irr x.1 x.2
  trans x y z h1 h2 := by unfold ltOf cmpE at *; simp at *; exact h.trans x.1 x.2 y.1 y.2 z.1 z.2 h1 h2
  ntrans x y z h1 h2 := by
    unfold ltOf cmpE at *
    simp at *
    have := h.ntrans x.1 x.2 y.1 y.2 z.1 z.2 (by omega) (by omega)
    omega
theorem tells_total (h : Tells H g xs) (x y : Elt xs) (h1 : ltOf (cmpE (xs := xs) H g) x y = false) (h2 : ltOf (cmpE (xs := xs) H g) y x = false) : x = y := by
  unfold ltOf cmpE at *
  simp at h1 h2
  exact Subtype.ext (h.total x.1 x.2 y.1 y.2 (by omega) (by omega))
theorem tells_calls (hH : HandOk P H) (h : Tells H g xs) (hs : ∀ x ∈ xs, ∀ p ∈ x, scalar p = true) (x y : Elt xs) (w : World) : Calls P g #[.agg (encE x).toArray, .agg (encE y).toArray] w fun e w' => e = .returned (.int .i64 (cmpE H g x y)) ∧ ∃ q os', w' = grow (w.drewN q) os' := by
  obtain ⟨n, hn⟩ := h.ans x.1 x.2 y.1 y.2
  have hc : cmpE H g x y = n := by unfold cmpE cmpOf; rw [hn]; rfl
  unfold cmpA at hn
  split at hn
  case h_2 => cases hn
  case h_1 m hm =>
    obtain rfl : m = n := by cases hn; rfl
    have hsp := hH g _ _ _ _ hm
    have rep : ∀ z : Elt xs, RepV1 (obsL []) ⟨fun _ => none, fun _ => 0, fun _ _ => none⟩ (.agg (z.1.map .pv)) (.agg (encE z).toArray) := fun z => by
      refine ⟨_, rfl, by simp [encE], fun i p hp => ?_⟩
      obtain ⟨q, hq, rfl⟩ := map_get hp
      have hv : (encE z).toArray.getD i undef = toV q := by
        rw [Array.getD_eq_getD_getElem?, List.getElem?_toArray, encE, List.getElem?_map, hq]
        rfl
      rw [hv]
      exact rep_scalar (hs z.1 z.2 q (List.mem_of_getElem? hq))
    refine Calls.mono (hsp w ⟨fun _ => none, fun _ => 0, fun _ _ => none⟩ #[.agg (encE x).toArray, .agg (encE y).toArray] ⟨fun _ _ _ h => (by cases h), fun i o h => (by simp at h), fun i i' o o' b h => (by simp at h)⟩ rfl fun i z hz => ?_) fun e w' ⟨v, c, he, hO⟩ => ?_
    · match i, hz with
      | 0, hz => cases hz; exact rep x
      | 1, hz => cases hz; exact rep y
    · have h1 : Rep c.G (.int .i64 m) v := hO.rep
      rw [rep_int h1] at he
      exact ⟨by rw [he, hc], hO.fr.grown fun b ⟨i, o, h, _⟩ => by simp at h⟩
theorem flat_at [Inhabited (Elt xs)] (hw : Wide k xs) {d : List (Elt xs)} {j i : Nat} {x : Elt xs} {p : PV} (hx : d[j]? = some x) (hp : x.1[i]? = some p) : j * k + i < d.toArray.size * k ∧ (flatK encE k d.toArray)[j * k + i]! = toV p := by
  have hj := (List.getElem?_eq_some_iff.1 hx).1
  have hi := (List.getElem?_eq_some_iff.1 hp).1
  have hk : x.1.length = k := by
    obtain ⟨q, hq, e⟩ := List.getElem_of_mem x.2
    exact e ▸ hw q _ (List.getElem?_eq_getElem hq)
  have hlt := mul_in (j := j) (n := d.length) (e := k) (i := i) hj (by omega)
  have hlt' : j * k + i < d.toArray.size * k := by simpa using hlt
  refine ⟨hlt', ?_⟩
  have e1 : (j * k + i) / k = j := by rw [Nat.mul_comm, Nat.mul_add_div (by omega), Nat.div_eq_of_lt (by omega), Nat.add_zero]
  have e2 : (j * k + i) % k = i := by rw [Nat.mul_comm, Nat.mul_add_mod, Nat.mod_eq_of_lt (by omega)]
  rw [get_flatK encE k d.toArray _ hlt', e1, e2]
  have e3 : d.toArray[j]! = x := by
    rw [getElem!_pos d.toArray j (by simpa using hj)]
    have := (List.getElem?_eq_some_iff.1 hx).2
    simpa using this
  rw [e3]
  have h4 : (encE x)[i]? = some (toV p) := by rw [encE, List.getElem?_map, hp]; rfl
  have h5 := (List.getElem?_eq_some_iff.1 h4)
  rw [getElem!_pos (encE x) i h5.1]
  exact h5.2
theorem sortF_spec (L : SlLaysF0.n6 P ρ) (hk0 : 0 < k) (aE : ∀ w, (isAgg (ρ.t 24)).run P w = .ok true w) (zE : ∀ w, (Go.sizeOf (ρ.t 24)).run P w = .ok k w) (hH : HandOk P H) (hg : FnOk P g) (h : Tells H g xs) (hs : ∀ x ∈ xs, ∀ p ∈ x, scalar p = true) (hlim : xs.length < 4000000000000000000) :
    Spec P (ρ.f 6) [.at (.row pinN 0), .at (.pv (.fn g []))] [.row true k xs] (.tup []) [some (.row true k (sortOf H g xs))] := by
  intro w c0 vs hin hsz hargs
  obtain ⟨v, u, rfl⟩ : ∃ v u, vs = #[v, u] := by
    match vs, hsz with
    | ⟨[v, u]⟩, _ => exact ⟨v, u, rfl⟩
  have hv : v = _ := row_val (hargs 0 _ rfl)
  have hu : Rep c0.G (.fn g []) u := hargs 1 _ rfl
  have hu : u = .func (.func g) #[] #[] := by
    cases hu with
    | fn _ _ vs hl hr =>
      obtain rfl : vs = #[] := by simpa using hl
      rfl
  subst hu
  rw [hv]
  have hperm : (sortOf H g xs).Perm xs := List.mergeSort_perm _ _
  have none0 : ∀ A cap, xs = [] → Calls P (ρ.f 6) #[.slice A 0 cap, .func (.func g) #[] #[]] w fun e w' => e = .returned (.tuple #[]) ∧ w' = w := fun A cap _ => AnyF.slices_SortFunc_none L A cap _ w
  rcases row_in hin with ⟨h1, h2, h3⟩ | ⟨b, cs, ty, h1, h2, h3, h4, h5, h6, h7⟩
  · subst h2
    rw [h1]
    refine Calls.mono (none0 none 0 rfl) ?_
    rintro e w' ⟨rfl, rfl⟩
    have e : sortOf H g [] = [] := by simp [sortOf]
    rw [e]
    exact ⟨_, c0, rfl, out_same hin rfl⟩
  · rw [h1]
    have hbl := (Array.getElem?_eq_some_iff.1 h2).1
    by_cases hx0 : xs = []
    · subst hx0
      refine Calls.mono (none0 (some ⟨b, 0, none⟩) (c0.cp pinN) rfl) ?_
      rintro e w' ⟨rfl, rfl⟩
      have e : sortOf H g [] = [] := by simp [sortOf]
      rw [e]
      exact ⟨_, c0, rfl, out_same hin rfl⟩
    obtain ⟨x0, hx0⟩ := List.exists_mem_of_ne_nil _ hx0
    have : Inhabited (Elt xs) := ⟨⟨x0, hx0⟩⟩
    have hmap : xs.attach.map Subtype.val = xs := List.attach_map_subtype_val xs
    have hsz' : (xs.attach.toArray).size = xs.length := by simp
    have hlenE : ∀ x : Elt xs, (encE x).length = k := fun x => by
      obtain ⟨q, hq, e⟩ := List.getElem_of_mem x.2
      have := h5 q _ (List.getElem?_eq_getElem hq)
      rw [e] at this
      simp [encE, this]
    have hholds : HoldsK (encE (xs := xs)) k w b 0 xs.attach.toArray := by
      intro t ht
      have ht' : t < xs.length * k := by simpa using ht
      have hj : t / k < xs.length := (Nat.div_lt_iff_lt_mul hk0).2 ht'
      have hxj : xs[t / k]? = some xs[t / k] := List.getElem?_eq_getElem hj
      have hm : t % k < xs[t / k].length := by rw [h5 _ _ hxj]; exact Nat.mod_lt _ hk0
      have hpj : (xs[t / k])[t % k]? = some (xs[t / k])[t % k] := List.getElem?_eq_getElem hm
      have e1 : t / k * k + t % k = t := by rw [Nat.mul_comm]; exact Nat.div_add_mod t k
      have hat : xs.attach[t / k]? = some ⟨xs[t / k], List.getElem_mem hj⟩ := by simp [List.getElem?_attach, hj]
      obtain ⟨_, hf⟩ := flat_at h5 (d := xs.attach) hat hpj
      rw [e1] at hf
      have hr := h6 _ _ _ _ hxj hpj
      rw [e1] at hr
      have hsc := hs _ (List.getElem_mem hj) _ (List.getElem_mem hm)
      refine ⟨?_, frozen_blk h2⟩
      rw [Nat.zero_add, cell_of_blk h2, get_of_getD (by rw [h4]; exact Nat.lt_of_lt_of_le ht' (Nat.mul_le_mul_right k h3.1)), scalar_rep hsc hr, hf]
      rfl
    have hone : ∀ x : Elt xs, ∀ v ∈ encE x, v.oneCell' = true := fun x v hv => by
      obtain ⟨p, hp, rfl⟩ := List.mem_map.1 hv
      exact scalar_one (hs x.1 x.2 p hp)
    obtain ⟨fn, f1, f2, f3⟩ := hg
    have f2 : ¬ fn.name = "runtime.NumGoroutine" := by simpa using f2
    have f3 : ¬ fn.body = none := fun e => by rw [e] at f3; simp at f3
    have eg : ∀ args w, (callFunc g args).run P w = .ok (.enter g args) w := fun args w => by simp [callFunc, program, Sem.run, f1, f2, f3]
    have hc := AnyQ.slices_SortFunc_total L k aE zE (encE (xs := xs)) hlenE hone (cmpE H g) (tells_swo h) g #[] b 0 (c0.cp pinN) xs.attach.toArray w eg
      (fun m os dk hdk x y => tells_calls hH h hs x y _) hholds hbl (by rw [hsz']; omega) (tells_total h)
    rw [hsz'] at hc
    refine Calls.mono hc ?_
    rintro e w' ⟨rfl, n, os, rfl⟩
    let ds : List (Elt xs) := xs.attach.mergeSort fun x y => !(ltOf (cmpE H g)) y x
    have hds : ds.map Subtype.val = sortOf H g xs := by
      have := List.map_mergeSort (f := Subtype.val) (l := xs.attach) (r := fun x y => !(ltOf (cmpE (xs := xs) H g)) y x) (s := fun x y => !decide (cmpOf H g y x < 0)) (fun a _ b _ => rfl)
      rw [hmap] at this
      exact this
    have hdl : ds.length = xs.length := by simp [ds]
    refine ⟨_, c0, rfl, out_inplace hin h1 h7 (wrote_putG id hbl (flatK encE k ds.toArray) n os) (heap_putG id h2 (flatK encE k ds.toArray) n os) (by simp [putCells, h4]) hperm.length_eq h3 (fun j x hx => ?_) (fun j x i y hx hy => ?_) rfl⟩
    · have := hperm.mem_iff.1 (List.mem_of_getElem? hx)
      obtain ⟨q, hq, e⟩ := List.getElem_of_mem this
      exact e ▸ h5 q _ (List.getElem?_eq_getElem hq)
    · rw [← hds] at hx
      obtain ⟨z, hz, rfl⟩ := map_get hx
      obtain ⟨hlt, hf⟩ := flat_at h5 hz hy
      have hsc := hs z.1 z.2 y (List.mem_of_getElem? hy)
      have hlt2 : j * k + i < cs.size := by
        have : j * k + i < ds.length * k := by simpa using hlt
        rw [h4]
        exact Nat.lt_of_lt_of_le this (Nat.mul_le_mul_right k (by omega))
      have e5 : (putCells id 0 (flatK encE k ds.toArray) cs).getD (j * k + i) undef = toV y := by
        simp only [putCells, Array.getD_eq_getD_getElem?, Array.getElem?_mapIdx, Array.getElem?_eq_getElem hlt2, Option.map_some, Option.getD_some]
        rw [if_pos (by rw [size_flatK]; omega), Nat.sub_zero]
        exact hf
      rw [e5]
      exact rep_scalar hsc
end
def sortArgs (k : Nat) : List V1 → List AObj → Option (FuncId × List (List PV))
  | [.at (.row n z), .at (.pv (.fn g []))], [.row own e xs] => if n = pinN ∧ z = 0 ∧ own = true ∧ e = k then some (g, xs) else none
  | _, _ => none
theorem sortArgs_some {k : Nat} {args : List V1} {ins : List AObj} {q : FuncId × List (List PV)} (h : sortArgs k args ins = some q) : args = [.at (.row pinN 0), .at (.pv (.fn q.1 []))] ∧ ins = [.row true k q.2] := by
  unfold sortArgs at h
  split at h
  · split at h
    · rename_i hc
      obtain ⟨rfl, rfl, rfl, rfl⟩ := hc
      cases h
      exact ⟨rfl, rfl⟩
    · cases h
  · cases h
structure SortOk (P : Program) (H : Hand) (g : FuncId) (xs : List (List PV)) : Prop where
  fn : fnOf P g = true
  lim : xs.length < 4000000000000000000
  sc : ∀ x ∈ xs, ∀ p ∈ x, scalar p = true
  tells : Tells H g xs
open Classical in
noncomputable def libSortF (P : Program) (k : Nat) : LibFn := fun H args ins => (sortArgs k args ins).bind fun q => if SortOk P H q.1 q.2 then some (.tup [], [some (.row true k (sortOf H q.1 q.2))]) else none
theorem cmpA_sub {A A' : Ora} {g : FuncId} {x y : List PV} {n : Int} (h : cmpA A.fn g x y = some n) (hq : (Qry.fn g [.agg (x.map .pv), .agg (y.map .pv)] []).sub A A') : cmpA A'.fn g x y = some n := by
  unfold cmpA at h ⊢
  split at h
  case h_2 => cases h
  case h_1 m hm =>
    rw [hq _ hm]
    exact h
theorem tells_congr {H H' : Hand} {g : FuncId} {xs : List (List PV)} (h : ∀ x ∈ xs, ∀ y ∈ xs, cmpA H' g x y = cmpA H g x y) (ht : Tells H g xs) : Tells H' g xs := by
  have hc : ∀ x ∈ xs, ∀ y ∈ xs, cmpOf H' g x y = cmpOf H g x y := fun x hx y hy => by unfold cmpOf; rw [h x hx y hy]
  exact ⟨fun x hx y hy => by rw [h x hx y hy]; exact ht.ans x hx y hy, fun x hx => by rw [hc x hx x hx]; exact ht.irr x hx,
    fun x hx y hy z hz => by rw [hc x hx y hy, hc y hy z hz, hc x hx z hz]; exact ht.trans x hx y hy z hz,
    fun x hx y hy z hz => by rw [hc x hx y hy, hc y hy z hz, hc x hx z hz]; exact ht.ntrans x hx y hy z hz,
    fun x hx y hy => by rw [hc x hx y hy, hc y hy x hx]; exact ht.total x hx y hy⟩
theorem sortOf_congr {H H' : Hand} {g : FuncId} {xs : List (List PV)} (h : ∀ x ∈ xs, ∀ y ∈ xs, cmpA H' g x y = cmpA H g x y) : sortOf H' g xs = sortOf H g xs := by
  have := List.map_mergeSort (f := Subtype.val) (l := xs.attach) (r := fun x y => !decide (cmpOf H g y.1 x.1 < 0)) (s := fun x y => !decide (cmpOf H' g y x < 0)) (fun a _ b _ => by
    unfold cmpOf; rw [h _ b.2 _ a.2])
  have h2 := List.map_mergeSort (f := Subtype.val) (l := xs.attach) (r := fun x y => !decide (cmpOf H g y.1 x.1 < 0)) (s := fun x y => !decide (cmpOf H g y x < 0)) (fun a _ b _ => rfl)
  rw [List.attach_map_subtype_val] at this h2
  exact this.symm.trans h2
theorem good_sortF {ρ : Ren} {k : Nat} (L : SlLaysF0.n6 P ρ) (hk0 : 0 < k) (aE : ∀ w, (isAgg (ρ.t 24)).run P w = .ok true w) (zE : ∀ w, (Go.sizeOf (ρ.t 24)).run P w = .ok k w) : LibGood P (ρ.f 6) (libSortF P k) where
  fs args ins := by
    intro A r h
    obtain ⟨q, hq, h⟩ := Option.bind_eq_some_iff.1 h
    split at h
    case isFalse => cases h
    case isTrue hc =>
      refine ⟨q.2.flatMap fun x => q.2.map fun y => Qry.fn q.1 [.agg (x.map .pv), .agg (y.map .pv)] [], fun A' hA => ?_⟩
      have hs : ∀ x ∈ q.2, ∀ y ∈ q.2, cmpA A'.fn q.1 x y = cmpA A.fn q.1 x y := fun x hx y hy => by
        obtain ⟨m, hm⟩ := hc.tells.ans x hx y hy
        rw [hm]
        exact cmpA_sub hm (hA _ (List.mem_flatMap.2 ⟨x, hx, List.mem_map.2 ⟨y, hy, rfl⟩⟩))
      show (sortArgs k args ins).bind _ = _
      rw [hq, Option.bind_some, if_pos ⟨hc.fn, hc.lim, hc.sc, tells_congr hs hc.tells⟩, sortOf_congr hs]
      exact h
  snd H hH args ins res fin h0 := by
    obtain ⟨q, hq, h⟩ := Option.bind_eq_some_iff.1 h0
    obtain ⟨rfl, rfl⟩ := sortArgs_some hq
    clear h0
    split at h
    case isFalse => cases h
    case isTrue hc =>
      cases h
      exact sortF_spec L hk0 aE zE hH (fnOf_ok _ hc.fn) hc.tells hc.sc hc.lim
theorem sortF_at {H : Hand} {g : FuncId} {k : Nat} {xs : List (List PV)} (h : SortOk P H g xs) : libSortF P k H [.at (.row pinN 0), .at (.pv (.fn g []))] [.row true k xs] = some (.tup [], [some (.row true k (sortOf H g xs))]) := by
  unfold libSortF
  have : sortArgs k [.at (.row pinN 0), .at (.pv (.fn g []))] [.row true k xs] = some (g, xs) := by simp [sortArgs]
  rw [this, Option.bind_some, if_pos h]
def cloneE (P : Program) (k : Nat) : Env := ⟨tyOf P, fnOf P, tagsOf P, fun _ _ => [], fun _ => [[.own k]], fun _ _ => none, fun _ _ => false, fun _ => none, fun _ _ => false, fun _ => none, fun _ => false⟩
theorem cloneE_ok (k : Nat) (h : P.follows .mixedOrders = true) : EnvOk P (cloneE P k) := ⟨tyOf_ok, fnOf_ok, tagsOf_ok, h, fun t h => by cases h⟩
def libClone (k bytes : Nat) : LibFn := fun _ args ins => match args, ins with
  | [.at (.pv (.list e xs))], [] => if (e = k ∨ xs.length = 0) ∧ xs.length * (bytes + 1) ≤ appLim then some (.one (.at (.row pinN 0)), [some (.row true k xs)]) else none
  | _, _ => none
theorem good_clone {f : FuncId} {fn : Func} {t : TypeId} {ty ety : Ty} {o0 o1 o2 o3 o4 o5 o6 o7 : Oper} {i0 i1 i2 i3 : Nat} (hmix : P.follows .mixedOrders = true)
    (hf : P.funcs[f]? = some fn) (hb : fn.body = some ((Code.region i0 #[o0] false).seq (((Code.region i1 #[o1, o2] false).seq (.cond (.tmp 4) ((Code.region i2 #[o3] false).seq .ret) .skip)).seq ((Code.region i3 #[o4, o5, o6, o7] false).seq .ret))))
    (hn : fn.ntmps = 8) (hr : fn.results = #[.tmp 2]) (ht : tyOf P t = some ty) (hel : ¬ ty.elem = 0) (hety : tyOf P ty.elem = some ety)
    (h0 : OpIs o0 (.assign (.const (.slice none 0 0))) (some 2)) (h1 : OpIs o1 (.move (.tmp 0)) (some 3)) (h2 : OpIs o2 (.binOp .eql t (.tmp 3) (.const (.slice none 0 0)) t) (some 4)) (h3 : OpIs o3 (.assign (.const (.slice none 0 0))) (some 2))
    (h4 : OpIs o4 (.buildSlice t 0 #[]) (some 5)) (h5 : OpIs o5 (.move (.tmp 0)) (some 6)) (h6 : OpIs o6 (.call ⟨.builtin .append, #[.tmp 5, .tmp 6], #[t, t]⟩) (some 7)) (h7 : OpIs o7 (.assign (.tmp 7)) (some 2)) : LibGood P f (libClone ety.size ety.bytes) where
  fs _ _ := FS.const _
  snd H hH args ins res fin h := by
    unfold libClone at h
    split at h
    case h_2 => cases h
    case h_1 e xs =>
      split at h
      case isFalse => cases h
      case isTrue hc =>
        cases h
        have hsp := clone_spec (E := cloneE P ety.size) (cloneE_ok _ hmix) (fun f id h => by cases h) hf hb hn hr rfl ht hel hety h0 h1 h2 h3 h4 h5 h6 h7 hc.2
        rcases hc.1 with rfl | hx
        · exact hsp
        · intro w c0 vs hin hsz hargs
          refine hsp w c0 vs hin hsz fun i x hx' => ?_
          match i, hx' with
          | 0, hx' =>
            cases hx'
            have := hargs 0 _ rfl
            obtain rfl : xs = [] := List.length_eq_zero_iff.1 hx
            have this : Rep c0.G (.list e []) (vs.getD 0 undef) := this
            show Rep c0.G (.list ety.size []) (vs.getD 0 undef)
            obtain ⟨A, cap, hA⟩ := rep_list_val this
            rw [hA]
            exact .nil _ _ _
theorem good_clone' {f : FuncId} {fn : Func} {t e k n : Nat} {o0 o1 o2 o3 o4 o5 o6 o7 : Oper} {i0 i1 i2 i3 : Nat} (hmix : P.follows .mixedOrders = true)
    (ht : (tyOf P t).map (·.elem) = some e) (hel : ¬ e = 0) (hety : (tyOf P e).map (fun y => (y.size, y.bytes)) = some (k, n))
    (hf : P.funcs[f]? = some fn) (hb : fn.body = some ((Code.region i0 #[o0] false).seq (((Code.region i1 #[o1, o2] false).seq (.cond (.tmp 4) ((Code.region i2 #[o3] false).seq .ret) .skip)).seq ((Code.region i3 #[o4, o5, o6, o7] false).seq .ret))))
    (hn : fn.ntmps = 8) (hr : fn.results = #[.tmp 2])
    (h0 : OpIs o0 (.assign (.const (.slice none 0 0))) (some 2)) (h1 : OpIs o1 (.move (.tmp 0)) (some 3)) (h2 : OpIs o2 (.binOp .eql t (.tmp 3) (.const (.slice none 0 0)) t) (some 4)) (h3 : OpIs o3 (.assign (.const (.slice none 0 0))) (some 2))
    (h4 : OpIs o4 (.buildSlice t 0 #[]) (some 5)) (h5 : OpIs o5 (.move (.tmp 0)) (some 6)) (h6 : OpIs o6 (.call ⟨.builtin .append, #[.tmp 5, .tmp 6], #[t, t]⟩) (some 7)) (h7 : OpIs o7 (.assign (.tmp 7)) (some 2)) : LibGood P f (libClone k n) := by
  obtain ⟨ty, h8, rfl⟩ := Option.map_eq_some_iff.1 ht
  obtain ⟨ety, h9, h10⟩ := Option.map_eq_some_iff.1 hety
  cases h10
  exact good_clone hmix hf hb hn hr h8 hel h9 h0 h1 h2 h3 h4 h5 h6 h7
theorem clone_at (H : Hand) {k bytes : Nat} {xs : List (List PV)} (hl : xs.length * (bytes + 1) ≤ appLim) : libClone k bytes H [.at (.pv (.list k xs))] [] = some (.one (.at (.row pinN 0)), [some (.row true k xs)]) := if_pos ⟨.inl rfl, hl⟩
end Go.E2
