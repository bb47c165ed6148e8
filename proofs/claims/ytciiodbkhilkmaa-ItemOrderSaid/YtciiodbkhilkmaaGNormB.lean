/- slices.SortFunc over items, and item.Norm: any items in their one form. -/
import Derived.Test.YtciiodbkhilkmaaGItemB
import Derived.KernelRfl
import Derived.MapKept
import Derived.Test.YtciiodbkhilkmaaGDelC
import Derived.Test.YtciiodbkhilkmaaGOrder
import Derived.Test.YtciiodbkhilkmaaGClone
/- The map of dots that item.Norm keeps: what looking a dot up and laying it in do. -/
namespace Go.Proofs.Ytciiodbkhilkmaa.F
set_option linter.unusedVariables false
set_option linter.unusedSimpArgs false
open Go.RowKit Go.Proofs.YtciiodbkhilkmaaW.PrintWords Go.Proofs.YtciiodbkhilkmaaW.PrintLast Go.Proofs.YtciiodbkhilkmaaW.PrintMore
attribute [local go_sem high] dotEqA
def dotV (d : S24) : Value := .agg #[.int .i64 d.f0, .int .i64 d.f1, .int .i64 d.f2]
theorem check_dot (em : Bool) (a b c : Int) (w : World) : (Instr.checkKey em 10000 24 (.agg #[.int .i64 a, .int .i64 b, .int .i64 c])).run Try.prog w = .ok () w := by
  kernel_rfl
theorem equal_dot (a b : S24) (w : World) : (Op.equal 24 (dotV a) (dotV b)).run Try.prog w = .ok (dotEq a b) w := by
  unfold Op.equal
  exact dotEqA 9998 w _ _ _ _ _ _
theorem dotEq_iff (a b : S24) : dotEq a b = true ↔ a = b := by
  unfold dotEq
  cases a; cases b
  simp
/-- The map at block r holds just these dots, each with true. -/
def Seen (r : Nat) (seen : List S24) (W : World) : Prop :=
  ∃ es clock, W.heap[r]? = some (.map es clock) ∧ es.toList.map (fun e => (e.key, e.val)) = seen.map fun d => (dotV d, Value.bool true)
theorem find_dot (d : S24) (w : World) : ∀ (es : List MapEntry) (seen : List S24) (i : Nat), es.map (fun e => (e.key, e.val)) = seen.map (fun d => (dotV d, Value.bool true)) →
    (seen.any (dotEq d) = false ∧ (Instr.findAsking 24 (dotV d) es i).run Try.prog w = .ok none w) ∨
    (seen.any (dotEq d) = true ∧ ∃ j e, es[j]? = some e ∧ e.key = dotV d ∧ (Instr.findAsking 24 (dotV d) es i).run Try.prog w = .ok (some (i + j, .bool true)) w)
  | [], [], _, _ => .inl ⟨rfl, rfl⟩
  | [], _ :: _, _, h => by cases h
  | _ :: _, [], _, h => by cases h
  | e :: es, s :: seen, i, h => by
    simp only [List.map_cons, List.cons.injEq, Prod.mk.injEq] at h
    obtain ⟨⟨hk, hv⟩, hr⟩ := h
    have he : (Op.equal 24 (dotV d) e.key).run Try.prog w = .ok (dotEq d s) w := by rw [hk]; exact equal_dot d s w
    cases hq : dotEq d s with
    | true =>
      refine .inr ⟨by simp [hq], 0, e, rfl, ?_, ?_⟩
      · rw [hk, ← (dotEq_iff d s).1 hq]
      · simp [Instr.findAsking, he, hq, hv, Result.andThen]
    | false =>
      have hs : (Instr.findAsking 24 (dotV d) (e :: es) i).run Try.prog w = (Instr.findAsking 24 (dotV d) es (i + 1)).run Try.prog w := by
        simp [Instr.findAsking, he, hq, Result.andThen]
      rw [hs]
      rcases find_dot d w es seen (i + 1) hr with ⟨h1, h2⟩ | ⟨h1, j, e', h2, h3, h4⟩
      · exact .inl ⟨by simp [hq, h1], h2⟩
      · exact .inr ⟨by simp [hq, h1], j + 1, e', by simpa using h2, h3, by rw [h4, show i + 1 + j = i + (j + 1) by omega]⟩
theorem findKey_dot (d : S24) (w : World) (es : List MapEntry) (seen : List S24) (h : es.map (fun e => (e.key, e.val)) = seen.map (fun d => (dotV d, Value.bool true))) :
    (Instr.findKey 24 (dotV d) es).run Try.prog w = (Instr.findAsking 24 (dotV d) es 0).run Try.prog w := by
  cases es with
  | nil => simp [Instr.findKey, run_underlying Try.underlying24, Instr.findNow, Instr.findAsking, Result.andThen]
  | cons e es =>
    have hk : e.key = dotV (seen.headD ⟨0, 0, 0⟩) := by
      cases seen with
      | nil => cases h
      | cons s seen => simp only [List.map_cons, List.cons.injEq, Prod.mk.injEq] at h; exact h.1.1
    simp [Instr.findKey, run_underlying Try.underlying24, Instr.findNow, Instr.sameNow, Result.andThen]
theorem lookup_dot (r : Nat) (seen : List S24) (d : S24) (w : World) (h : Seen r seen w) :
    (Instr.lookup 77 (.map (some r)) (dotV d) false).run Try.prog w = .ok (.bool (seen.any (dotEq d))) w := by
  obtain ⟨es, clock, hb, hes⟩ := h
  have hf := findKey_dot d w es.toList seen hes
  have hc := check_dot es.isEmpty d.f0 d.f1 d.f2 w
  have hg : (getObj r).run Try.prog w = .ok (.map es clock) w := by simp [getObj, Sem.run, hb]
  rcases find_dot d w es.toList seen 0 hes with ⟨h1, h2⟩ | ⟨h1, j, e, h2, h3, h4⟩
  · rw [h2] at hf
    rw [h1]
    simp [Instr.lookup, run_underlying Try.underlying77, hg, dotV] at hf hc ⊢
    simp [hc, hf, Result.andThen, Try.zeroValue4 w]
  · rw [h4] at hf
    rw [h1]
    simp [Instr.lookup, run_underlying Try.underlying77, hg, dotV] at hf hc ⊢
    simp [hc, hf, Result.andThen]
/-- A dot more among those that were seen. -/
def seeD (seen : List S24) (d : S24) : List S24 := if seen.any (dotEq d) = true then seen else seen ++ [d]
theorem update_dot (r : Nat) (seen : List S24) (d : S24) (w : World) (h : Seen r seen w) :
    ∃ w', (Instr.mapUpdate 77 (.map (some r)) (dotV d) (.bool true)).run Try.prog w = .ok () w' ∧ Seen r (seeD seen d) w' ∧ Goes w w' (fun k => k = r) := by
  obtain ⟨es, clock, hb, hes⟩ := h
  have hf := findKey_dot d w es.toList seen hes
  have hc := check_dot false d.f0 d.f1 d.f2 w
  have hg : (getObj r).run Try.prog w = .ok (.map es clock) w := by simp [getObj, Sem.run, hb]
  have hs : ∀ o, (setObj r o).run Try.prog w = .ok () { w with heap := w.heap.setIfInBounds r o } := fun o => by simp [setObj, Sem.run, hb]
  have hlt : r < w.heap.size := blk_lt hb
  have hgo : ∀ o, Goes w { w with heap := w.heap.setIfInBounds r o } (fun k => k = r) := fun o =>
    ⟨⟨by simp, fun i hi hn => by
      show (w.heap.setIfInBounds r o)[i]? = _
      rw [Array.getElem?_setIfInBounds_ne (by omega)]⟩, ⟨rfl, rfl, rfl, by simp, fun k hk => absurd hk (Nat.not_lt_zero _)⟩⟩
  have hat : ∀ o, ({ w with heap := w.heap.setIfInBounds r o } : World).heap[r]? = some o := fun o => by
    show (w.heap.setIfInBounds r o)[r]? = _
    rw [Array.getElem?_setIfInBounds_self_of_lt hlt]
  rcases find_dot d w es.toList seen 0 hes with ⟨h1, h2⟩ | ⟨h1, j, e, h2, h3, h4⟩
  · rw [h2] at hf
    refine ⟨_, ?_, ⟨es.push ⟨dotV d, .bool true, clock⟩, clock + 1, hat _, ?_⟩, hgo _⟩
    · simp [Instr.mapUpdate, run_underlying Try.underlying77, hg, dotV] at hf hc ⊢
      simp [hc, hf, hs, Result.andThen]
    · unfold seeD
      rw [if_neg (by rw [h1]; simp), Array.toList_push, List.map_append, List.map_append, hes]
      rfl
  · rw [h4] at hf
    have hk : (Instr.keyThatStays e.key (dotV d)).run Try.prog w = .ok (dotV d) w := by
      rw [h3]
      have hsb : Instr.sameBits 10000 (dotV d) (dotV d) = true := by
        show Instr.sameBits (9999 + 1) (dotV d) (dotV d) = true
        simp [dotV, Instr.sameBits]
      simp [Instr.keyThatStays, hsb]
    have hj : es[j]? = some e := by rw [← Array.getElem?_toList]; exact h2
    refine ⟨_, ?_, ⟨es.modify j fun e => { e with key := dotV d, val := .bool true }, clock, hat _, ?_⟩, hgo _⟩
    · have hjl : j < es.size := (Array.getElem?_eq_some_iff.1 hj).1
      simp [Instr.mapUpdate, run_underlying Try.underlying77, hg, dotV] at hf hc hk ⊢
      simp [hc, hf, hj, hk, hs, Result.andThen]
    · unfold seeD
      rw [if_pos h1, ← hes]
      apply List.ext_getElem?
      intro i
      rw [List.getElem?_map, List.getElem?_map, Array.getElem?_toList, Array.getElem?_toList, Array.getElem?_modify]
      split
      · rename_i hij
        subst hij
        rw [hj]
        have hv : e.val = .bool true := by
          have h5 : (es.toList.map fun e => (e.key, e.val))[j]? = some (e.key, e.val) := by rw [List.getElem?_map, h2]; rfl
          rw [hes, List.getElem?_map] at h5
          obtain ⟨z, hz, hz2⟩ := Option.map_eq_some_iff.1 h5
          exact (Prod.mk.inj hz2).2.symm
        simp [h3, hv]
      · rfl
end Go.Proofs.Ytciiodbkhilkmaa.F

/- The function value that item.Norm hands to slices.DeleteFunc: was an item's dot seen? It is from now on. -/
namespace Go.Proofs.Ytciiodbkhilkmaa.F
set_option linter.unusedVariables false
set_option linter.unusedSimpArgs false
open Go.RowKit Go.Proofs.YtciiodbkhilkmaaW.PrintWords Go.Proofs.YtciiodbkhilkmaaW.PrintLast Go.Proofs.YtciiodbkhilkmaaW.PrintMore
def stepN (seen : List S24) (x : S26) : Bool × List S24 := (seen.any (dotEq x.f5), seeD seen x.f5)
def InvN (q r : Nat) (seen : List S24) (W : World) : Prop := Seen r seen W ∧ W.cell? ⟨q, 0, none⟩ = some (.map (some r))
theorem Seen.goes {r : Nat} {seen : List S24} {W W' : World} {S : Nat → Prop} (h : Seen r seen W) (hg : Goes W W' S) (hn : ¬ S r) : Seen r seen W' := by
  obtain ⟨es, clock, hb, hes⟩ := h
  exact ⟨es, clock, blk_kept hb hg.kept hn, hes⟩
theorem normS (q r : Nat) (hqr : q ≠ r) : CallsS 77 #[.pointer (some ⟨q, 0, none⟩)] encItem stepN (InvN q r) (fun k => k = r) := by
  intro seen W x hI
  obtain ⟨hs, hc⟩ := hI
  have hlt := World.block_lt_of_cell? W _ hc
  have hne : q ≠ W.heap.size := Nat.ne_of_lt hlt
  obtain ⟨es, clock, hb, _⟩ := hs
  have hrl := blk_lt hb
  have hs1 : Seen r seen (W.alloc (.cells #[.string x.f0, .string x.f1, .int .i64 x.f2, .string x.f3, .int .i64 x.f4, .int .i64 x.f5.f0, .int .i64 x.f5.f1, .int .i64 x.f5.f2] 26)) := Seen.goes ⟨es, clock, hb, by assumption⟩ ((Goes.refl W (fun _ => False)).alloc _) (fun h => h)
  have hl := lookup_dot r seen x.f5 _ hs1
  obtain ⟨w2, hu, hs2, hg2⟩ := update_dot r seen x.f5 _ hs1
  unfold dotV at hl hu
  have hg : Goes W w2 (fun k => k = r) := ((Goes.refl _ _).alloc _).trans hg2
  have hI2 := Aside0.mk (And.intro (show InvN q r (seeD seen x.f5) w2 from ⟨hs2, hg.cell hc hqr⟩) hg)
  show Calls Try.prog 77 #[.agg #[.string x.f0, .string x.f1, .int .i64 x.f2, .string x.f3, .int .i64 x.f4, .int .i64 x.f5.f0, .int .i64 x.f5.f1, .int .i64 x.f5.f2], .pointer (some ⟨q, 0, none⟩)] W fun e w' => e = .returned (.bool (seen.any (dotEq x.f5))) ∧ InvN q r (seeD seen x.f5) w' ∧ Goes W w' (fun k => k = r)
  clear hs1 hs2 hg2 hg
  generalize seen.any (dotEq x.f5) = b at hl ⊢
  go_enter Try.func77, Try.ntmps77
  go_wp2
  go_ret
  exact ⟨rfl, hI2.out⟩
end Go.Proofs.Ytciiodbkhilkmaa.F

namespace Go.Proofs.Ytciiodbkhilkmaa.F
set_option linter.unusedVariables false
set_option linter.unusedSimpArgs false
open Go.RowKit Go.Sort Go.Proofs.YtciiodbkhilkmaaW.PrintWords Go.Proofs.YtciiodbkhilkmaaW.PrintLast Go.Proofs.YtciiodbkhilkmaaW.PrintMore
instance : Inhabited S26 := ⟨z26⟩
def encL (x : S26) : List Value := [.string x.f0, .string x.f1, .int .i64 x.f2, .string x.f3, .int .i64 x.f4, .int .i64 x.f5.f0, .int .i64 x.f5.f1, .int .i64 x.f5.f2]
/-- Items in order. -/
def sortI (l : List S26) : List S26 := l.mergeSort fun x y => !(ltOf cmpI) y x
theorem reps_flat (d : Array S26) (w : World) (base : Nat) (ok : Nat → Prop) : Reps (k26.M w base ok) 8 d.toList (flatK encL 8 d).toList := by
  refine ⟨by simp, fun j p hj => ?_⟩
  obtain ⟨hjl, hp⟩ := List.getElem?_eq_some_iff.1 hj
  have hjl' : j < d.size := by simpa using hjl
  have e : ((flatK encL 8 d).toList.drop (j * 8)).take 8 = encL p := by
    apply List.ext_getElem?
    intro i
    rw [List.getElem?_take]
    split
    · rename_i hi
      have ht : j * 8 + i < d.size * 8 := by omega
      rw [List.getElem?_drop, Array.getElem?_toList, Array.getElem?_eq_getElem (by simpa using ht)]
      have h1 := get_flatK encL 8 d (j * 8 + i) ht
      rw [getElem!_pos _ _ (by simpa using ht), show (j * 8 + i) / 8 = j by omega, show (j * 8 + i) % 8 = i by omega, getElem!_pos d j hjl'] at h1
      rw [h1, ← hp]
      have hi' : i < (encL d.toList[j]).length := hi
      rw [List.getElem?_eq_getElem hi']
      rw [getElem!_pos (encL d[j]) i hi]
      rfl
    · rename_i hi
      rw [List.getElem?_eq_none]
      show 8 ≤ i
      omega
  rw [e]
  exact k26_mkM _ _ _ _
theorem holds_item {w : World} {base g cap : Nat} {ok : Nat → Prop} {l : List S26} (h : Kd.R k26 26 w base ok (.slice (some ⟨g, 0, none⟩) l.length cap) l) : HoldsK encL 8 w g 0 l.toArray := by
  intro t ht
  have ht' : t < l.length * 8 := by simpa using ht
  have hj : t / 8 < l.length := by omega
  have hc := (Kd.R_reads' h).2.2
  obtain ⟨ad, c, e, hcl, hK, hcell⟩ := Kd.C_get hc z26 ((t / 8 : Nat) : Int) (by omega) (by omega)
  injection e with e
  subst e
  obtain rfl := k26_open hK
  rw [Int.toNat_natCast] at hcell
  rw [show l.getD (t / 8) z26 = l[t / 8] by simp [List.getD, hj]] at hcell
  have hm : t % 8 < 8 := Nat.mod_lt _ (by omega)
  have hv : (encL l[t / 8])[t % 8]? = some (encL l[t / 8])[t % 8]! := by
    rw [getElem!_pos (encL l[t / 8]) (t % 8) hm]
    exact List.getElem?_eq_getElem hm
  have h2 := hcell (t % 8) _ hv
  rw [Addr.add_lit, Nat.zero_add] at h2
  have e8 : t / 8 * k26.sz + t % 8 = t := by
    show t / 8 * 8 + t % 8 = t
    omega
  rw [e8] at h2
  rw [Nat.zero_add]
  refine ⟨?_, ?_⟩
  · rw [h2, get_flatK encL 8 l.toArray t (by simpa using ht'), getElem!_pos l.toArray (t / 8) (by simpa using hj)]
    simp
  · obtain ⟨_, inner, hown, _⟩ := h
    rcases hown.2 with ⟨hv, _⟩ | ⟨g', cap', cur, hv, hg, hb, _⟩
    · cases hv
    · injection hv with hv1
      injection hv1 with hv1
      injection hv1 with hv1
      subst hv1
      simp [World.frozen?, hb]
theorem put_item {w : World} {base g cap : Nat} {ok : Nat → Prop} {l : List S26} (h : Kd.R k26 26 w base ok (.slice (some ⟨g, 0, none⟩) l.length cap) l) (d : Array S26) (hd : d.size = l.length) (q : Nat) (os : Array Obj) :
    Kd.R k26 26 (grow (putRowK encL 8 (Sort.ahead w q) g 0 d) os) base ok (.slice (some ⟨g, 0, none⟩) l.length cap) d.toList ∧ Goes w (grow (putRowK encL 8 (Sort.ahead w q) g 0 d) os) (fun k => k = g) := by
  obtain ⟨hok, inner, hown, _⟩ := h
  obtain ⟨h1, h2⟩ := put_raw (size := 8) hown id (flatK encL 8 d) (by rw [size_flatK, hd]) (Nat.le_refl _) q os
  rw [List.map_id, List.take_of_length_le (by simp [hd])] at h1
  refine ⟨⟨hok, (flatK encL 8 d).toList, ?_, reps_flat d _ _ _⟩, h2⟩
  have e : d.toList.length = l.length := by rw [Array.length_toList]; exact hd
  rw [e]
  exact h1
theorem sort_item (v : Value) (l : List S26) (base : Nat) (ok : Nat → Prop) (w : World) (h : Kd.R k26 26 w base ok v l) (hl : l.length < lim) :
    Calls Try.prog 74 #[v, .func (.func 75) #[] #[]] w fun e w' => e = .returned (.tuple #[]) ∧ Kd.R k26 26 w' base ok v (sortI l) ∧ Goes w w' (fun k => v.ownBlock = some k) := by
  obtain ⟨A, cap, rfl, hle, _⟩ := Kd.R_reads h
  have h0 := h
  obtain ⟨_, inner, hown, _⟩ := h0
  have hown' := hown
  rcases hown'.2 with ⟨hv, hn⟩ | ⟨g, cap', cur, hv, hg, hb, _⟩
  · obtain rfl : l = [] := List.length_eq_zero_iff.1 hn
    refine (AnyF.slices_SortFunc_none Try.laySortItem A cap _ w).mono ?_
    rintro e w' ⟨he, rfl⟩
    exact ⟨he, by rw [show sortI [] = [] by simp [sortI]]; exact h, Goes.refl _ _⟩
  · injection hv with hv1 hv2 hv3
    subst hv1 hv3
    have hh := holds_item h
    have eg : ∀ args w, (callFunc 75 args).run Try.prog w = .ok (.enter 75 args) w := fun _ _ => enters_of Try.func75 (by kernel_rfl) rfl _ _
    have hc := AnyQ.slices_SortFunc_total Try.laySortItem 8 Try.isAgg26 Try.sizeOf26 encL (fun _ => rfl) (fun x v hv => by simp [encL] at hv; rcases hv with rfl | rfl | rfl | rfl | rfl | rfl | rfl | rfl <;> rfl) cmpI good_cmpI.swo 75 #[] g 0 cap l.toArray w eg
      (fun m os dk _ x y => compare_at x y _) hh (blk_lt hb) (by simp; unfold lim at hl; omega) cmpI_total
    have hc' : Calls Try.prog 74 #[.slice (some ⟨g, 0, none⟩) l.length cap, .func (.func 75) #[] #[]] w _ := hc
    refine hc'.mono ?_
    rintro e w' ⟨he, n, os, rfl⟩
    have hp := put_item h (l.mergeSort fun x y => !(ltOf cmpI) y x).toArray (by simp) n os
    exact ⟨he, hp.1, hp.2.mono fun k hk => by rw [hk]; rfl⟩
/-- Items in their one form: in order, of each dot the first. -/
def normL (l : List S26) : List S26 := (keepS stepN [] (sortI l)).1
def item_Norm.f (l0 : List (S26)) : Option (List (S26)) := if l0.length < lim then some (normL l0) else none
set_option maxHeartbeats 1000000 in
set_option maxRecDepth 100000 in
theorem item_Norm.calls (A0 : Option Addr) (c0 : Nat) (l0 : List (S26)) (r : List (S26)) (w : World) (hr0 : Kd.C k26 w A0 l0.length l0) (_hc0 : l0.length ≤ c0) (h : item_Norm.f l0 = some r) :
    Calls Try.prog 36 #[.slice A0 l0.length c0] w fun e w' => ∃ v0_ : Value, e = .returned (v0_) ∧ Kd.R k26 26 w' w.heap.size (fun _ => True) v0_ r ∧ Below w.heap.size w w' := by
  unfold item_Norm.f at h
  split at h
  case isFalse => cases h
  rename_i hl
  obtain rfl := Option.some.inj h
  clear h
  have eg : EntersB 77 := fun _ _ => enters_of Try.func77 (by kernel_rfl) rfl _ _
  have hcl := clone_item A0 c0 l0 w hr0 hl
  have HL := Aside0.mk hl
  clear hr0 hl
  go_enter Try.func36, Try.ntmps36
  go_wp2_with fail
  refine hcl.mono ?_
  rintro e w1 ⟨v1, rfl, ho1, hb1⟩
  have hob : ∀ k, v1.ownBlock = some k → w.heap.size ≤ k := fun k hk => by
    obtain ⟨_, inner, hown, _⟩ := ho1
    exact own_base hown k hk
  have hs := sort_item v1 l0 _ _ w1 ho1 HL.out
  have HOB := Aside0.mk hob
  have HB1 := Aside0.mk hb1
  clear ho1 hob hb1 hcl
  go_wp2_with fail
  refine hs.mono ?_
  rintro e w2 ⟨rfl, ho2, hg2⟩
  have HO2 := Aside0.mk ho2
  have HG2 := Aside0.mk hg2
  clear ho2 hg2 hs
  have hmk : ∀ w : World, (Instr.makeMap 77 none).run Try.prog w = .ok (.map (some w.heap.size)) (w.alloc (.map #[] 0)) := fun _ => rfl
  go_wp2_with fail
  clear hmk
  have hg02 : Goes w2 ((w2.alloc (.map #[] 0)).alloc (.cells #[.map (some w2.heap.size)] 77)) (fun _ => False) := ((Goes.refl _ _).alloc _).alloc _
  have hnb : ∀ k, v1.ownBlock = some k → k < w2.heap.size := fun k hk => by
    obtain ⟨_, inner, hown, _⟩ := HO2.out
    exact own_lt hown k hk
  have HR3 : Kd.R k26 26 ((w2.alloc (.map #[] 0)).alloc (.cells #[.map (some w2.heap.size)] 77)) w.heap.size (fun _ => True) v1 (sortI l0) := Kd.R_kept HO2.out hg02.kept (fun _ _ h => h)
  have hI : InvN (w2.heap.size + 1) w2.heap.size [] ((w2.alloc (.map #[] 0)).alloc (.cells #[.map (some w2.heap.size)] 77)) := by
    refine ⟨⟨#[], 0, ?_, rfl⟩, by simp⟩
    rw [Below.heap_alloc _ _ _ (by simp)]
    exact heap_alloc_new w2 _
  have hcs := normS (w2.heap.size + 1) w2.heap.size (by omega)
  have hdel : Calls Try.prog 76 #[v1, .func (.func 77) #[] #[.pointer (some ⟨w2.heap.size + 1, 0, none⟩)]] ((w2.alloc (.map #[] 0)).alloc (.cells #[.map (some w2.heap.size)] 77))
      (PostDS stepN (InvN (w2.heap.size + 1) w2.heap.size) (fun k => k = w2.heap.size) [] (sortI l0) w.heap.size v1 ((w2.alloc (.map #[] 0)).alloc (.cells #[.map (some w2.heap.size)] 77))) := by
    obtain ⟨hok, inner, hown, hreps⟩ := HR3
    rcases hown.2 with ⟨rfl, hn⟩ | ⟨B, cap, cur, rfl, hB, _⟩
    · have h0 : sortI l0 = [] := List.length_eq_zero_iff.1 hn
      rw [h0] at hown hreps ⊢
      exact deleteS_item_nil _ _ eg stepN _ _ [] none 0 w.heap.size _ hI hcs (item_ok ⟨hok, inner, hown, hreps⟩ fun _ h => h) (fun k _ h => by cases h)
    · have hBl := hnb B rfl
      exact deleteS_item_some _ _ eg stepN _ _ [] B cap w.heap.size (sortI l0) w _ hI hcs (item_ok ⟨hok, inner, hown, hreps⟩ fun k h => by injection h with h; exact h.symm) (fun k h => by omega) (fun k h => by rw [h]; simp; omega) (fun s W W' hi hg => ⟨hi.1.goes hg (by omega), hg.cell hi.2 (by show ¬ (w2.heap.size + 1 = B); omega)⟩)
  have HG3 := Aside0.mk hg02
  clear hI hcs HR3 hg02
  refine hdel.mono ?_
  rintro e w3 ⟨v3, rfl, ho3, _, hg3⟩
  have HO3 := Aside0.mk ho3
  have HG4 := Aside0.mk hg3
  have HNB := Aside0.mk hnb
  clear ho3 hg3 hdel hnb
  go_wp2
  go_ret
  refine ⟨_, rfl, item_ok HO3.out fun _ _ => trivial, ?_⟩
  have hb2 := HG2.out.below HB1.out HB1.out.size HOB.out
  have hb3 := HG3.out.below hb2 hb2.size (fun _ h => h.elim)
  exact HG4.out.below hb3 hb3.size (fun k hk => by
    rcases hk with hk | hk
    · rw [hk]; exact hb2.size
    · exact HOB.out k hk)
end Go.Proofs.Ytciiodbkhilkmaa.F
