/- slices.SortFunc over items, and item.Norm: any items in their one form. -/
import Derived.Test.YtciiodbkhilkmaaGCompare
import Derived.Test.YtciiodbkhilkmaaGOnce
import Derived.Test.YtciiodbkhilkmaaGDelC
import Derived.Test.YtciiodbkhilkmaaGSeen
import Derived.Test.YtciiodbkhilkmaaGClone
/- Items in order: item.compare is a total order; slices.SortFunc over items puts a row in that order. -/
namespace Go.Proofs.Ytciiodbkhilkmaa.F
set_option linter.unusedVariables false
set_option linter.unusedSimpArgs false
open Go.RowKit Go.Sort Go.Proofs.YtciiodbkhilkmaaW.PrintWords Go.Proofs.YtciiodbkhilkmaaW.PrintLast Go.Proofs.YtciiodbkhilkmaaW.PrintMore
/-- What makes a comparison one: it is turned by turning, and 'not above' goes on. -/
structure GoodC {α : Type} (c : α → α → Int) : Prop where
  anti : ∀ x y, c x y < 0 ↔ 0 < c y x
  trans : ∀ x y z, c x y ≤ 0 → c y z ≤ 0 → c x z ≤ 0
section
variable {α β : Type}
theorem GoodC.zero {c : α → α → Int} (h : GoodC c) {x y : α} : c x y = 0 ↔ c y x = 0 := by
  have h1 := h.anti x y
  have h2 := h.anti y x
  omega
theorem GoodC.on {c : β → β → Int} (h : GoodC c) (f : α → β) : GoodC fun x y => c (f x) (f y) := ⟨fun _ _ => h.anti _ _, fun _ _ _ => h.trans _ _ _⟩
theorem GoodC.lex {c d : α → α → Int} (h : GoodC c) (k : GoodC d) : GoodC fun x y => if c x y = 0 then d x y else c x y := by
  refine ⟨fun x y => ?_, fun x y z h1 h2 => ?_⟩
  · have a1 := h.anti x y
    have a2 := h.anti y x
    have a3 := k.anti x y
    have a4 := k.anti y x
    show (if c x y = 0 then d x y else c x y) < 0 ↔ 0 < (if c y x = 0 then d y x else c y x)
    split <;> split <;> omega
  · have h1 : (if c x y = 0 then d x y else c x y) ≤ 0 := h1
    have h2 : (if c y z = 0 then d y z else c y z) ≤ 0 := h2
    show (if c x z = 0 then d x z else c x z) ≤ 0
    have b1 : c x y ≤ 0 := by split at h1 <;> omega
    have b2 : c y z ≤ 0 := by split at h2 <;> omega
    have b3 := h.trans x y z b1 b2
    by_cases e : c x z = 0
    · rw [if_pos e]
      have e' := h.zero.1 e
      have c1 := h.trans y z x b2 (by omega)
      have c2 := h.trans z x y (by omega) b1
      have d1 := h.anti x y
      have d2 := h.anti y x
      have d3 := h.anti y z
      have d4 := h.anti z y
      have e1 : c x y = 0 := by omega
      have e2 : c y z = 0 := by omega
      rw [if_pos e1] at h1
      rw [if_pos e2] at h2
      exact k.trans x y z h1 h2
    · rw [if_neg e]
      exact b3
theorem GoodC.swo {c : α → α → Int} (h : GoodC c) : SWO (ltOf c) where
  irrefl x := by
    have := h.anti x x
    unfold ltOf
    simp; omega
  trans x y z h1 h2 := by
    unfold ltOf at *
    simp at *
    have a1 := h.trans x y z (by omega) (by omega)
    have a2 := h.anti y z
    rcases Int.lt_or_le (c x z) 0 with h3 | h3
    · exact h3
    · have e : c x z = 0 := by omega
      have e' := h.zero.1 e
      have := h.trans z x y (by omega) (by omega)
      omega
  ntrans x y z h1 h2 := by
    unfold ltOf at *
    simp at *
    have a1 := h.anti x y
    have a2 := h.anti y z
    have a3 := h.anti x z
    have := h.trans z y x (by omega) (by omega)
    have a4 := h.anti z x
    omega
end
theorem good_cmpZ : GoodC cmpZ := by
  refine ⟨fun x y => ?_, fun x y z => ?_⟩
  · unfold cmpZ; split <;> split <;> (try split) <;> (try split) <;> omega
  · unfold cmpZ; split <;> split <;> split <;> (try split) <;> (try split) <;> (try split) <;> omega
theorem cmpB_neg (a b : ByteArray) : cmpB a b < 0 ↔ a.toList < b.toList := by
  unfold cmpB
  rw [bytesLess_eq, bytesLess_eq]
  by_cases h : a.toList < b.toList
  · simp [h]
  · by_cases h2 : b.toList < a.toList <;> simp [h, h2]
theorem cmpB_pos (a b : ByteArray) : 0 < cmpB a b ↔ b.toList < a.toList := by
  unfold cmpB
  rw [bytesLess_eq, bytesLess_eq]
  by_cases h : a.toList < b.toList
  · have : ¬ b.toList < a.toList := fun h' => List.lt_irrefl _ (List.lt_trans h h')
    simp [h, this]
  · by_cases h2 : b.toList < a.toList <;> simp [h, h2]
theorem bytes_tri (a b : List UInt8) : a < b ∨ a = b ∨ b < a := by
  have h := bytesLess_tri a b
  rw [bytesLess_eq, bytesLess_eq] at h
  by_cases h1 : a < b
  · exact .inl h1
  · by_cases h2 : a = b
    · exact .inr (.inl h2)
    · refine .inr (.inr ?_)
      have h3 : (a == b) = false := beq_eq_false_iff_ne.2 h2
      simp [h1, h3] at h
      exact h
theorem good_cmpB : GoodC cmpB := by
  refine ⟨fun x y => by rw [cmpB_neg, cmpB_pos], fun x y z h1 h2 => ?_⟩
  have h1 : ¬ y.toList < x.toList := fun h => by have := (cmpB_pos x y).2 h; omega
  have h2 : ¬ z.toList < y.toList := fun h => by have := (cmpB_pos y z).2 h; omega
  rcases Int.lt_or_le 0 (cmpB x z) with h3 | h3
  · exfalso
    have h3 := (cmpB_pos x z).1 h3
    rcases bytes_tri x.toList y.toList with a | a | a
    · exact h2 (List.lt_trans h3 a)
    · rw [a] at h3; exact h2 h3
    · exact h1 a
  · exact h3
theorem cmpB_zero (a b : ByteArray) (h : cmpB a b = 0) : a = b := by
  have h1 : ¬ a.toList < b.toList := fun h' => by have := (cmpB_neg a b).2 h'; omega
  have h2 : ¬ b.toList < a.toList := fun h' => by have := (cmpB_pos a b).2 h'; omega
  rcases bytes_tri a.toList b.toList with e | e | e
  · exact absurd e h1
  · have e : a.data.toList = b.data.toList := by rw [← Lib.toList_data, ← Lib.toList_data]; exact e
    cases a; cases b
    congr
    exact Array.toList_inj.1 e
  · exact absurd e h2
theorem cmpZ_zero (a b : Int) (h : cmpZ a b = 0) : a = b := by
  unfold cmpZ at h
  split at h <;> (try split at h) <;> omega
theorem good_cmpI : GoodC cmpI := by
  have h : GoodC fun x y : S26 => orZ [cmpB x.f0 y.f0, cmpB x.f1 y.f1, cmpZ x.f2 y.f2, cmpZ x.f5.f0 y.f5.f0, cmpZ x.f5.f1 y.f5.f1, cmpZ x.f5.f2 y.f5.f2, cmpB x.f3 y.f3, cmpZ x.f4 y.f4] := by
    unfold orZ
    refine (good_cmpB.on fun x : S26 => x.f0).lex ?_
    unfold orZ
    refine (good_cmpB.on fun x : S26 => x.f1).lex ?_
    unfold orZ
    refine (good_cmpZ.on fun x : S26 => x.f2).lex ?_
    unfold orZ
    refine (good_cmpZ.on fun x : S26 => x.f5.f0).lex ?_
    unfold orZ
    refine (good_cmpZ.on fun x : S26 => x.f5.f1).lex ?_
    unfold orZ
    refine (good_cmpZ.on fun x : S26 => x.f5.f2).lex ?_
    unfold orZ
    refine (good_cmpB.on fun x : S26 => x.f3).lex ?_
    unfold orZ
    have h8 := (good_cmpZ.on fun x : S26 => x.f4)
    have e : (fun x y : S26 => if cmpZ x.f4 y.f4 = 0 then orZ [] else cmpZ x.f4 y.f4) = fun x y => cmpZ x.f4 y.f4 := by
      funext x y
      by_cases h : cmpZ x.f4 y.f4 = 0
      · rw [if_pos h, h]; rfl
      · rw [if_neg h]
    rw [e]
    exact h8
  exact h
theorem orZ_zero : ∀ l : List Int, orZ l = 0 → ∀ x ∈ l, x = 0
  | [], _ => by simp
  | y :: l, h => by
    unfold orZ at h
    split at h
    · rename_i hy
      intro x hx
      rcases List.mem_cons.1 hx with rfl | hx
      · exact hy
      · exact orZ_zero l h x hx
    · rename_i hy; exact absurd h hy
theorem cmpI_zero (x y : S26) (h : cmpI x y = 0) : x = y := by
  have hz := orZ_zero _ h
  simp only [List.mem_cons, List.not_mem_nil, or_false, forall_eq_or_imp, forall_eq] at hz
  obtain ⟨h0, h1, h2, h3, h4, h5, h6, h7⟩ := hz
  obtain ⟨a0, a1, a2, a3, a4, ⟨b0, b1, b2⟩⟩ := x
  obtain ⟨c0, c1, c2, c3, c4, ⟨d0, d1, d2⟩⟩ := y
  simp only at *
  rw [cmpB_zero _ _ h0, cmpB_zero _ _ h1, cmpZ_zero _ _ h2, cmpZ_zero _ _ h3, cmpZ_zero _ _ h4, cmpZ_zero _ _ h5, cmpB_zero _ _ h6, cmpZ_zero _ _ h7]
theorem cmpI_total (x y : S26) (h1 : ltOf cmpI x y = false) (h2 : ltOf cmpI y x = false) : x = y := by
  unfold ltOf at h1 h2
  simp at h1 h2
  have a := good_cmpI.anti x y
  have b := good_cmpI.anti y x
  exact cmpI_zero x y (by omega)
end Go.Proofs.Ytciiodbkhilkmaa.F

/- The function value that item.Norm hands to slices.DeleteFunc: was an item's dot seen? It is from now on. -/
namespace Go.Proofs.Ytciiodbkhilkmaa.F
set_option linter.unusedVariables false
set_option linter.unusedSimpArgs false
open Go.RowKit Go.Proofs.YtciiodbkhilkmaaW.PrintWords Go.Proofs.YtciiodbkhilkmaaW.PrintLast Go.Proofs.YtciiodbkhilkmaaW.PrintMore
def stepN (seen : List S24) (x : S26) : Bool × List S24 := (seen.any (dotEq x.f5), seeD seen x.f5)
def InvN (q r : Nat) (seen : List S24) (W : World) : Prop := Seen r seen W ∧ W.cell? ⟨q, 0, none⟩ = some (.map (some r))
theorem Seen.goes {r : Nat} {seen : List S24} {W W' : World} {S : Nat → Prop} (h : Seen r seen W) (hg : Goes W W' S) (hn : ¬ S r) : Seen r seen W' := by
  obtain ⟨es, clock, hb, hes⟩ := h
  exact ⟨es, clock, blk_kept hb hg.kept hn, hes⟩
theorem normS (q r : Nat) (hqr : q ≠ r) : CallsS 77 #[.pointer (some ⟨q, 0, none⟩)] encItem stepN (InvN q r) (fun k => k = r) := by
  intro seen W x hI
  obtain ⟨hs, hc⟩ := hI
  have hlt := World.block_lt_of_cell? W _ hc
  have hne : q ≠ W.heap.size := Nat.ne_of_lt hlt
  obtain ⟨es, clock, hb, _⟩ := hs
  have hrl := blk_lt hb
  have hs1 : Seen r seen (W.alloc (.cells #[.string x.f0, .string x.f1, .int .i64 x.f2, .string x.f3, .int .i64 x.f4, .int .i64 x.f5.f0, .int .i64 x.f5.f1, .int .i64 x.f5.f2] 26)) := Seen.goes ⟨es, clock, hb, by assumption⟩ ((Goes.refl W (fun _ => False)).alloc _) (fun h => h)
  have hl := lookup_dot r seen x.f5 _ hs1
  obtain ⟨w2, hu, hs2, hg2⟩ := update_dot r seen x.f5 _ hs1
  unfold dotV at hl hu
  have hg : Goes W w2 (fun k => k = r) := ((Goes.refl _ _).alloc _).trans hg2
  have hI2 := Aside0.mk (And.intro (show InvN q r (seeD seen x.f5) w2 from ⟨hs2, hg.cell hc hqr⟩) hg)
  show Calls Try.prog 77 #[.agg #[.string x.f0, .string x.f1, .int .i64 x.f2, .string x.f3, .int .i64 x.f4, .int .i64 x.f5.f0, .int .i64 x.f5.f1, .int .i64 x.f5.f2], .pointer (some ⟨q, 0, none⟩)] W fun e w' => e = .returned (.bool (seen.any (dotEq x.f5))) ∧ InvN q r (seeD seen x.f5) w' ∧ Goes W w' (fun k => k = r)
  clear hs1 hs2 hg2 hg
  generalize seen.any (dotEq x.f5) = b at hl ⊢
  go_enter Try.func77, Try.ntmps77
  go_wp2
  go_ret
  exact ⟨rfl, hI2.out⟩
end Go.Proofs.Ytciiodbkhilkmaa.F

namespace Go.Proofs.Ytciiodbkhilkmaa.F
set_option linter.unusedVariables false
set_option linter.unusedSimpArgs false
open Go.RowKit Go.Sort Go.Proofs.YtciiodbkhilkmaaW.PrintWords Go.Proofs.YtciiodbkhilkmaaW.PrintLast Go.Proofs.YtciiodbkhilkmaaW.PrintMore
instance : Inhabited S26 := ⟨z26⟩
def encL (x : S26) : List Value := [.string x.f0, .string x.f1, .int .i64 x.f2, .string x.f3, .int .i64 x.f4, .int .i64 x.f5.f0, .int .i64 x.f5.f1, .int .i64 x.f5.f2]
/-- Items in order. -/
def sortI (l : List S26) : List S26 := l.mergeSort fun x y => !(ltOf cmpI) y x
theorem reps_flat (d : Array S26) (w : World) (base : Nat) (ok : Nat → Prop) : Reps (k26.M w base ok) 8 d.toList (flatK encL 8 d).toList := by
  refine ⟨by simp, fun j p hj => ?_⟩
  obtain ⟨hjl, hp⟩ := List.getElem?_eq_some_iff.1 hj
  have hjl' : j < d.size := by simpa using hjl
  have e : ((flatK encL 8 d).toList.drop (j * 8)).take 8 = encL p := by
    apply List.ext_getElem?
    intro i
    rw [List.getElem?_take]
    split
    · rename_i hi
      have ht : j * 8 + i < d.size * 8 := by omega
      rw [List.getElem?_drop, Array.getElem?_toList, Array.getElem?_eq_getElem (by simpa using ht)]
      have h1 := get_flatK encL 8 d (j * 8 + i) ht
      rw [getElem!_pos _ _ (by simpa using ht), show (j * 8 + i) / 8 = j by omega, show (j * 8 + i) % 8 = i by omega, getElem!_pos d j hjl'] at h1
      rw [h1, ← hp]
      have hi' : i < (encL d.toList[j]).length := hi
      rw [List.getElem?_eq_getElem hi']
      rw [getElem!_pos (encL d[j]) i hi]
      rfl
    · rename_i hi
      rw [List.getElem?_eq_none]
      show 8 ≤ i
      omega
  rw [e]
  exact k26_mkM _ _ _ _
theorem holds_item {w : World} {base g cap : Nat} {ok : Nat → Prop} {l : List S26} (h : Kd.R k26 26 w base ok (.slice (some ⟨g, 0, none⟩) l.length cap) l) : HoldsK encL 8 w g 0 l.toArray := by
  intro t ht
  have ht' : t < l.length * 8 := by simpa using ht
  have hj : t / 8 < l.length := by omega
  have hc := (Kd.R_reads' h).2.2
  obtain ⟨ad, c, e, hcl, hK, hcell⟩ := Kd.C_get hc z26 ((t / 8 : Nat) : Int) (by omega) (by omega)
  injection e with e
  subst e
  obtain rfl := k26_open hK
  rw [Int.toNat_natCast] at hcell
  rw [show l.getD (t / 8) z26 = l[t / 8] by simp [List.getD, hj]] at hcell
  have hm : t % 8 < 8 := Nat.mod_lt _ (by omega)
  have hv : (encL l[t / 8])[t % 8]? = some (encL l[t / 8])[t % 8]! := by
    rw [getElem!_pos (encL l[t / 8]) (t % 8) hm]
    exact List.getElem?_eq_getElem hm
  have h2 := hcell (t % 8) _ hv
  rw [Addr.add_lit, Nat.zero_add] at h2
  have e8 : t / 8 * k26.sz + t % 8 = t := by
    show t / 8 * 8 + t % 8 = t
    omega
  rw [e8] at h2
  rw [Nat.zero_add]
  refine ⟨?_, ?_⟩
  · rw [h2, get_flatK encL 8 l.toArray t (by simpa using ht'), getElem!_pos l.toArray (t / 8) (by simpa using hj)]
    simp
  · obtain ⟨_, inner, hown, _⟩ := h
    rcases hown.2 with ⟨hv, _⟩ | ⟨g', cap', cur, hv, hg, hb, _⟩
    · cases hv
    · injection hv with hv1
      injection hv1 with hv1
      injection hv1 with hv1
      subst hv1
      simp [World.frozen?, hb]
theorem put_item {w : World} {base g cap : Nat} {ok : Nat → Prop} {l : List S26} (h : Kd.R k26 26 w base ok (.slice (some ⟨g, 0, none⟩) l.length cap) l) (d : Array S26) (hd : d.size = l.length) (q : Nat) (os : Array Obj) :
    Kd.R k26 26 (grow (putRowK encL 8 (Sort.ahead w q) g 0 d) os) base ok (.slice (some ⟨g, 0, none⟩) l.length cap) d.toList ∧ Goes w (grow (putRowK encL 8 (Sort.ahead w q) g 0 d) os) (fun k => k = g) := by
  obtain ⟨hok, inner, hown, _⟩ := h
  obtain ⟨h1, h2⟩ := put_raw (size := 8) hown id (flatK encL 8 d) (by rw [size_flatK, hd]) (Nat.le_refl _) q os
  rw [List.map_id, List.take_of_length_le (by simp [hd])] at h1
  refine ⟨⟨hok, (flatK encL 8 d).toList, ?_, reps_flat d _ _ _⟩, h2⟩
  have e : d.toList.length = l.length := by rw [Array.length_toList]; exact hd
  rw [e]
  exact h1
theorem sort_item (v : Value) (l : List S26) (base : Nat) (ok : Nat → Prop) (w : World) (h : Kd.R k26 26 w base ok v l) (hl : l.length < lim) :
    Calls Try.prog 74 #[v, .func (.func 75) #[] #[]] w fun e w' => e = .returned (.tuple #[]) ∧ Kd.R k26 26 w' base ok v (sortI l) ∧ Goes w w' (fun k => v.ownBlock = some k) := by
  obtain ⟨A, cap, rfl, hle, _⟩ := Kd.R_reads h
  have h0 := h
  obtain ⟨_, inner, hown, _⟩ := h0
  have hown' := hown
  rcases hown'.2 with ⟨hv, hn⟩ | ⟨g, cap', cur, hv, hg, hb, _⟩
  · obtain rfl : l = [] := List.length_eq_zero_iff.1 hn
    refine (AnyF.slices_SortFunc_none Try.laySortItem A cap _ w).mono ?_
    rintro e w' ⟨he, rfl⟩
    exact ⟨he, by rw [show sortI [] = [] by simp [sortI]]; exact h, Goes.refl _ _⟩
  · injection hv with hv1 hv2 hv3
    subst hv1 hv3
    have hh := holds_item h
    have eg : ∀ args w, (callFunc 75 args).run Try.prog w = .ok (.enter 75 args) w := fun _ _ => enters_of Try.func75 (by kernel_rfl) rfl _ _
    have hc := AnyQ.slices_SortFunc_total Try.laySortItem 8 Try.isAgg26 Try.sizeOf26 encL (fun _ => rfl) (fun x v hv => by simp [encL] at hv; rcases hv with rfl | rfl | rfl | rfl | rfl | rfl | rfl | rfl <;> rfl) cmpI good_cmpI.swo 75 #[] g 0 cap l.toArray w eg
      (fun m os dk _ x y => compare_at x y _) hh (blk_lt hb) (by simp; unfold lim at hl; omega) cmpI_total
    have hc' : Calls Try.prog 74 #[.slice (some ⟨g, 0, none⟩) l.length cap, .func (.func 75) #[] #[]] w _ := hc
    refine hc'.mono ?_
    rintro e w' ⟨he, n, os, rfl⟩
    have hp := put_item h (l.mergeSort fun x y => !(ltOf cmpI) y x).toArray (by simp) n os
    exact ⟨he, hp.1, hp.2.mono fun k hk => by rw [hk]; rfl⟩
/-- Items in their one form: in order, of each dot the first. -/
def normL (l : List S26) : List S26 := (keepS stepN [] (sortI l)).1
def item_Norm.f (l0 : List (S26)) : Option (List (S26)) := if l0.length < lim then some (normL l0) else none
set_option maxHeartbeats 1000000 in
set_option maxRecDepth 100000 in
theorem item_Norm.calls (A0 : Option Addr) (c0 : Nat) (l0 : List (S26)) (r : List (S26)) (w : World) (hr0 : Kd.C k26 w A0 l0.length l0) (_hc0 : l0.length ≤ c0) (h : item_Norm.f l0 = some r) :
    Calls Try.prog 36 #[.slice A0 l0.length c0] w fun e w' => ∃ v0_ : Value, e = .returned (v0_) ∧ Kd.R k26 26 w' w.heap.size (fun _ => True) v0_ r ∧ Below w.heap.size w w' := by
  unfold item_Norm.f at h
  split at h
  case isFalse => cases h
  rename_i hl
  obtain rfl := Option.some.inj h
  clear h
  have eg : EntersB 77 := fun _ _ => enters_of Try.func77 (by kernel_rfl) rfl _ _
  have hcl := clone_item A0 c0 l0 w hr0 hl
  have HL := Aside0.mk hl
  clear hr0 hl
  go_enter Try.func36, Try.ntmps36
  go_wp2_with fail
  refine hcl.mono ?_
  rintro e w1 ⟨v1, rfl, ho1, hb1⟩
  have hob : ∀ k, v1.ownBlock = some k → w.heap.size ≤ k := fun k hk => by
    obtain ⟨_, inner, hown, _⟩ := ho1
    exact own_base hown k hk
  have hs := sort_item v1 l0 _ _ w1 ho1 HL.out
  have HOB := Aside0.mk hob
  have HB1 := Aside0.mk hb1
  clear ho1 hob hb1 hcl
  go_wp2_with fail
  refine hs.mono ?_
  rintro e w2 ⟨rfl, ho2, hg2⟩
  have HO2 := Aside0.mk ho2
  have HG2 := Aside0.mk hg2
  clear ho2 hg2 hs
  have hmk : ∀ w : World, (Instr.makeMap 77 none).run Try.prog w = .ok (.map (some w.heap.size)) (w.alloc (.map #[] 0)) := fun _ => rfl
  go_wp2_with fail
  clear hmk
  have hg02 : Goes w2 ((w2.alloc (.map #[] 0)).alloc (.cells #[.map (some w2.heap.size)] 77)) (fun _ => False) := ((Goes.refl _ _).alloc _).alloc _
  have hnb : ∀ k, v1.ownBlock = some k → k < w2.heap.size := fun k hk => by
    obtain ⟨_, inner, hown, _⟩ := HO2.out
    exact own_lt hown k hk
  have HR3 : Kd.R k26 26 ((w2.alloc (.map #[] 0)).alloc (.cells #[.map (some w2.heap.size)] 77)) w.heap.size (fun _ => True) v1 (sortI l0) := Kd.R_kept HO2.out hg02.kept (fun _ _ h => h)
  have hI : InvN (w2.heap.size + 1) w2.heap.size [] ((w2.alloc (.map #[] 0)).alloc (.cells #[.map (some w2.heap.size)] 77)) := by
    refine ⟨⟨#[], 0, ?_, rfl⟩, by simp⟩
    rw [Below.heap_alloc _ _ _ (by simp)]
    exact heap_alloc_new w2 _
  have hcs := normS (w2.heap.size + 1) w2.heap.size (by omega)
  have hdel : Calls Try.prog 76 #[v1, .func (.func 77) #[] #[.pointer (some ⟨w2.heap.size + 1, 0, none⟩)]] ((w2.alloc (.map #[] 0)).alloc (.cells #[.map (some w2.heap.size)] 77))
      (PostDS stepN (InvN (w2.heap.size + 1) w2.heap.size) (fun k => k = w2.heap.size) [] (sortI l0) w.heap.size v1 ((w2.alloc (.map #[] 0)).alloc (.cells #[.map (some w2.heap.size)] 77))) := by
    obtain ⟨hok, inner, hown, hreps⟩ := HR3
    rcases hown.2 with ⟨rfl, hn⟩ | ⟨B, cap, cur, rfl, hB, _⟩
    · have h0 : sortI l0 = [] := List.length_eq_zero_iff.1 hn
      rw [h0] at hown hreps ⊢
      exact deleteS_item_nil _ _ eg stepN _ _ [] none 0 w.heap.size _ hI hcs (item_ok ⟨hok, inner, hown, hreps⟩ fun _ h => h) (fun k _ h => by cases h)
    · have hBl := hnb B rfl
      exact deleteS_item_some _ _ eg stepN _ _ [] B cap w.heap.size (sortI l0) w _ hI hcs (item_ok ⟨hok, inner, hown, hreps⟩ fun k h => by injection h with h; exact h.symm) (fun k h => by omega) (fun k h => by rw [h]; simp; omega) (fun s W W' hi hg => ⟨hi.1.goes hg (by omega), hg.cell hi.2 (by show ¬ (w2.heap.size + 1 = B); omega)⟩)
  have HG3 := Aside0.mk hg02
  clear hI hcs HR3 hg02
  refine hdel.mono ?_
  rintro e w3 ⟨v3, rfl, ho3, _, hg3⟩
  have HO3 := Aside0.mk ho3
  have HG4 := Aside0.mk hg3
  have HNB := Aside0.mk hnb
  clear ho3 hg3 hdel hnb
  go_wp2
  go_ret
  refine ⟨_, rfl, item_ok HO3.out fun _ _ => trivial, ?_⟩
  have hb2 := HG2.out.below HB1.out HB1.out.size HOB.out
  have hb3 := HG3.out.below hb2 hb2.size (fun _ h => h.elim)
  exact HG4.out.below hb3 hb3.size (fun k hk => by
    rcases hk with hk | hk
    · rw [hk]; exact hb2.size
    · exact HOB.out k hk)
end Go.Proofs.Ytciiodbkhilkmaa.F
