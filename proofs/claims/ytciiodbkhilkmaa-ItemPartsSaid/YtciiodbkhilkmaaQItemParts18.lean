/- ItemParts, part 18: GNormB. -/
import Derived.Lib.SliceRun
import Derived.Lib.Strings
import Derived.Shelf.Abstract
import Derived.Shelf.SlGeneric
import Derived.Shelf.Sort.Plain
import Derived.Shelf.Slices.CompactS
import Derived.Shelf.Slices.In.SortNone
import Derived.Shelf.SlSortCmp.NoneTotal
import Derived.Ground.NamesProg
import Derived.Ground.SlsfProg
import Derived.Test.YtciiodbkhilkmaaProg
import Derived.OrdersHeld
import Derived.Deep.RegionHeld3
import Derived.Laws.BitsLemmas
import Derived.RowKit
import Derived.WalkKit
import Derived.Below
import Derived.Deep.Draws
import Derived.Deep.AppendLies
import Derived.Maps.AppendAt
import Derived.OwnWalk
import Derived.Laws.BytesArg
import Derived.Laws.MakeOwn
import Derived.Laws.OwnMore
import Derived.Deep.OwnRows
import Derived.Tactics
import Derived.Lib.ConvBytes
import Derived.Laws.Slices
import Derived.KernelRfl
import Derived.RowKit3
import Derived.Deep.LoopGhost
import Derived.Deep.QuietTactic
import Derived.BigQuiet
import Derived.WideLaws
import Derived.Deep.DeepCutAuto
import Derived.Deep.CutBlock
import Derived.Laws.Rows
import Derived.Lib.AppendStr
import Derived.ArgAppend
import Derived.Laws.IdiomCopy
import Derived.StillTailTactics
import Derived.Sort.Grow
import Derived.MapKept
import Derived.Laws.StructEq
import Derived.Test.YtciiodbkhilkmaaQItemParts0
import Derived.Test.YtciiodbkhilkmaaQItemParts1
import Derived.Test.YtciiodbkhilkmaaQItemParts2
import Derived.Test.YtciiodbkhilkmaaQItemParts3
import Derived.Test.YtciiodbkhilkmaaQItemParts4
import Derived.Test.YtciiodbkhilkmaaQItemParts5
import Derived.Test.YtciiodbkhilkmaaQItemParts6
import Derived.Test.YtciiodbkhilkmaaQItemParts7
import Derived.Test.YtciiodbkhilkmaaQItemParts8
import Derived.Test.YtciiodbkhilkmaaQItemParts9
import Derived.Test.YtciiodbkhilkmaaQItemParts10
import Derived.Test.YtciiodbkhilkmaaQItemParts11
import Derived.Test.YtciiodbkhilkmaaQItemParts12
import Derived.Test.YtciiodbkhilkmaaQItemParts13
import Derived.Test.YtciiodbkhilkmaaQItemParts14
import Derived.Test.YtciiodbkhilkmaaQItemParts15
import Derived.Test.YtciiodbkhilkmaaQItemParts16
import Derived.Test.YtciiodbkhilkmaaQItemParts17
namespace Go.Proofs.Ytciiodbkhilkmaa.F
set_option linter.unusedVariables false
set_option linter.unusedSimpArgs false
open Go.RowKit Go.Sort Go.Proofs.YtciiodbkhilkmaaW.PrintWords Go.Proofs.YtciiodbkhilkmaaW.PrintLast Go.Proofs.YtciiodbkhilkmaaW.PrintMore
instance : Inhabited S26 := ⟨z26⟩
def encL (x : S26) : List Value := [.string x.f0, .string x.f1, .int .i64 x.f2, .string x.f3, .int .i64 x.f4, .int .i64 x.f5.f0, .int .i64 x.f5.f1, .int .i64 x.f5.f2]
def sortI (l : List S26) : List S26 := l.mergeSort fun x y => !(ltOf cmpI) y x
theorem reps_flat (d : Array S26) (w : World) (base : Nat) (ok : Nat → Prop) : Reps (k26.M w base ok) 8 d.toList (flatK encL 8 d).toList := by
  refine ⟨by simp, fun j p hj => ?_⟩
  obtain ⟨hjl, hp⟩ := List.getElem?_eq_some_iff.1 hj
  have hjl' : j < d.size := by simpa using hjl
  have e : ((flatK encL 8 d).toList.drop (j * 8)).take 8 = encL p := by
    apply List.ext_getElem?
    intro i
    rw [List.getElem?_take]
    split
    · rename_i hi
      have ht : j * 8 + i < d.size * 8 := by omega
      rw [List.getElem?_drop, Array.getElem?_toList, Array.getElem?_eq_getElem (by simpa using ht)]
      have h1 := get_flatK encL 8 d (j * 8 + i) ht
      rw [getElem!_pos _ _ (by simpa using ht), show (j * 8 + i) / 8 = j by omega, show (j * 8 + i) % 8 = i by omega, getElem!_pos d j hjl'] at h1
      rw [h1, ← hp]
      have hi' : i < (encL d.toList[j]).length := hi
      rw [List.getElem?_eq_getElem hi']
      rw [getElem!_pos (encL d[j]) i hi]
      rfl
    · rename_i hi
      rw [List.getElem?_eq_none]
      show 8 ≤ i
      omega
  rw [e]
  exact k26_mkM _ _ _ _
theorem holds_item {w : World} {base g cap : Nat} {ok : Nat → Prop} {l : List S26} (h : Kd.R k26 26 w base ok (.slice (some ⟨g, 0, none⟩) l.length cap) l) : HoldsK encL 8 w g 0 l.toArray := by
  intro t ht
  have ht' : t < l.length * 8 := by simpa using ht
  have hj : t / 8 < l.length := by omega
  have hc := (Kd.R_reads' h).2.2
  obtain ⟨ad, c, e, hcl, hK, hcell⟩ := Kd.C_get hc z26 ((t / 8 : Nat) : Int) (by omega) (by omega)
  injection e with e
  subst e
  obtain rfl := k26_open hK
  rw [Int.toNat_natCast] at hcell
  rw [show l.getD (t / 8) z26 = l[t / 8] by simp [List.getD, hj]] at hcell
  have hm : t % 8 < 8 := Nat.mod_lt _ (by omega)
  have hv : (encL l[t / 8])[t % 8]? = some (encL l[t / 8])[t % 8]! := by
    rw [getElem!_pos (encL l[t / 8]) (t % 8) hm]
    exact List.getElem?_eq_getElem hm
  have h2 := hcell (t % 8) _ hv
  rw [Addr.add_lit, Nat.zero_add] at h2
  have e8 : t / 8 * k26.sz + t % 8 = t := by
    show t / 8 * 8 + t % 8 = t
    omega
  rw [e8] at h2
  rw [Nat.zero_add]
  refine ⟨?_, ?_⟩
  · rw [h2, get_flatK encL 8 l.toArray t (by simpa using ht'), getElem!_pos l.toArray (t / 8) (by simpa using hj)]
    simp
  · obtain ⟨_, inner, hown, _⟩ := h
    rcases hown.2 with ⟨hv, _⟩ | ⟨g', cap', cur, hv, hg, hb, _⟩
    · cases hv
    · injection hv with hv1
      injection hv1 with hv1
      injection hv1 with hv1
      subst hv1
      simp [World.frozen?, hb]
theorem put_item {w : World} {base g cap : Nat} {ok : Nat → Prop} {l : List S26} (h : Kd.R k26 26 w base ok (.slice (some ⟨g, 0, none⟩) l.length cap) l) (d : Array S26) (hd : d.size = l.length) (q : Nat) (os : Array Obj) :
    Kd.R k26 26 (grow (putRowK encL 8 (Sort.ahead w q) g 0 d) os) base ok (.slice (some ⟨g, 0, none⟩) l.length cap) d.toList ∧ Goes w (grow (putRowK encL 8 (Sort.ahead w q) g 0 d) os) (fun k => k = g) := by
  obtain ⟨hok, inner, hown, _⟩ := h
  obtain ⟨h1, h2⟩ := put_raw (size := 8) hown id (flatK encL 8 d) (by rw [size_flatK, hd]) (Nat.le_refl _) q os
  rw [List.map_id, List.take_of_length_le (by simp [hd])] at h1
  refine ⟨⟨hok, (flatK encL 8 d).toList, ?_, reps_flat d _ _ _⟩, h2⟩
  have e : d.toList.length = l.length := by rw [Array.length_toList]; exact hd
  rw [e]
  exact h1
theorem sort_item (v : Value) (l : List S26) (base : Nat) (ok : Nat → Prop) (w : World) (h : Kd.R k26 26 w base ok v l) (hl : l.length < lim) :
    Calls Try.prog 74 #[v, .func (.func 75) #[] #[]] w fun e w' => e = .returned (.tuple #[]) ∧ Kd.R k26 26 w' base ok v (sortI l) ∧ Goes w w' (fun k => v.ownBlock = some k) := by
  obtain ⟨A, cap, rfl, hle, _⟩ := Kd.R_reads h
  have h0 := h
  obtain ⟨_, inner, hown, _⟩ := h0
  have hown' := hown
  rcases hown'.2 with ⟨hv, hn⟩ | ⟨g, cap', cur, hv, hg, hb, _⟩
  · obtain rfl : l = [] := List.length_eq_zero_iff.1 hn
    refine (AnyF.slices_SortFunc_none Try.laySortItem A cap _ w).mono ?_
    rintro e w' ⟨he, rfl⟩
    exact ⟨he, by rw [show sortI [] = [] by simp [sortI]]; exact h, Goes.refl _ _⟩
  · injection hv with hv1 hv2 hv3
    subst hv1 hv3
    have hh := holds_item h
    have eg : ∀ args w, (callFunc 75 args).run Try.prog w = .ok (.enter 75 args) w := fun _ _ => enters_of Try.func75 (by kernel_rfl) rfl _ _
    have hc := AnyQ.slices_SortFunc_total Try.laySortItem 8 Try.isAgg26 Try.sizeOf26 encL (fun _ => rfl) (fun x v hv => by simp [encL] at hv; rcases hv with rfl | rfl | rfl | rfl | rfl | rfl | rfl | rfl <;> rfl) cmpI good_cmpI.swo 75 #[] g 0 cap l.toArray w eg
      (fun m os dk _ x y => compare_at x y _) hh (blk_lt hb) (by simp; unfold lim at hl; omega) cmpI_total
    have hc' : Calls Try.prog 74 #[.slice (some ⟨g, 0, none⟩) l.length cap, .func (.func 75) #[] #[]] w _ := hc
    refine hc'.mono ?_
    rintro e w' ⟨he, n, os, rfl⟩
    have hp := put_item h (l.mergeSort fun x y => !(ltOf cmpI) y x).toArray (by simp) n os
    exact ⟨he, hp.1, hp.2.mono fun k hk => by rw [hk]; rfl⟩
def normL (l : List S26) : List S26 := (keepS stepN [] (sortI l)).1
def item_Norm.f (l0 : List (S26)) : Option (List (S26)) := if l0.length < lim then some (normL l0) else none
set_option maxHeartbeats 1000000 in
set_option maxRecDepth 100000 in
theorem item_Norm.calls (A0 : Option Addr) (c0 : Nat) (l0 : List (S26)) (r : List (S26)) (w : World) (hr0 : Kd.C k26 w A0 l0.length l0) (_hc0 : l0.length ≤ c0) (h : item_Norm.f l0 = some r) :
    Calls Try.prog 36 #[.slice A0 l0.length c0] w fun e w' => ∃ v0_ : Value, e = .returned (v0_) ∧ Kd.R k26 26 w' w.heap.size (fun _ => True) v0_ r ∧ Below w.heap.size w w' := by
  unfold item_Norm.f at h
  split at h
  case isFalse => cases h
  rename_i hl
  obtain rfl := Option.some.inj h
  clear h
  have eg : EntersB 77 := fun _ _ => enters_of Try.func77 (by kernel_rfl) rfl _ _
  have hcl := clone_item A0 c0 l0 w hr0 hl
  have HL := Aside0.mk hl
  clear hr0 hl
  go_enter Try.func36, Try.ntmps36
  go_wp2_with fail
  refine hcl.mono ?_
  rintro e w1 ⟨v1, rfl, ho1, hb1⟩
  have hob : ∀ k, v1.ownBlock = some k → w.heap.size ≤ k := fun k hk => by
    obtain ⟨_, inner, hown, _⟩ := ho1
    exact own_base hown k hk
  have hs := sort_item v1 l0 _ _ w1 ho1 HL.out
  have HOB := Aside0.mk hob
  have HB1 := Aside0.mk hb1
  clear ho1 hob hb1 hcl
  go_wp2_with fail
  refine hs.mono ?_
  rintro e w2 ⟨rfl, ho2, hg2⟩
  have HO2 := Aside0.mk ho2
  have HG2 := Aside0.mk hg2
  clear ho2 hg2 hs
  have hmk : ∀ w : World, (Instr.makeMap 77 none).run Try.prog w = .ok (.map (some w.heap.size)) (w.alloc (.map #[] 0)) := fun _ => rfl
  go_wp2_with fail
  clear hmk
  have hg02 : Goes w2 ((w2.alloc (.map #[] 0)).alloc (.cells #[.map (some w2.heap.size)] 77)) (fun _ => False) := ((Goes.refl _ _).alloc _).alloc _
  have hnb : ∀ k, v1.ownBlock = some k → k < w2.heap.size := fun k hk => by
    obtain ⟨_, inner, hown, _⟩ := HO2.out
    exact own_lt hown k hk
  have HR3 : Kd.R k26 26 ((w2.alloc (.map #[] 0)).alloc (.cells #[.map (some w2.heap.size)] 77)) w.heap.size (fun _ => True) v1 (sortI l0) := Kd.R_kept HO2.out hg02.kept (fun _ _ h => h)
  have hI : InvN (w2.heap.size + 1) w2.heap.size [] ((w2.alloc (.map #[] 0)).alloc (.cells #[.map (some w2.heap.size)] 77)) := by
    refine ⟨⟨#[], 0, ?_, rfl⟩, by simp⟩
    rw [Below.heap_alloc _ _ _ (by simp)]
    exact heap_alloc_new w2 _
  have hcs := normS (w2.heap.size + 1) w2.heap.size (by omega)
  have hdel : Calls Try.prog 76 #[v1, .func (.func 77) #[] #[.pointer (some ⟨w2.heap.size + 1, 0, none⟩)]] ((w2.alloc (.map #[] 0)).alloc (.cells #[.map (some w2.heap.size)] 77))
      (PostDS stepN (InvN (w2.heap.size + 1) w2.heap.size) (fun k => k = w2.heap.size) [] (sortI l0) w.heap.size v1 ((w2.alloc (.map #[] 0)).alloc (.cells #[.map (some w2.heap.size)] 77))) := by
    obtain ⟨hok, inner, hown, hreps⟩ := HR3
    rcases hown.2 with ⟨rfl, hn⟩ | ⟨B, cap, cur, rfl, hB, _⟩
    · have h0 : sortI l0 = [] := List.length_eq_zero_iff.1 hn
      rw [h0] at hown hreps ⊢
      exact deleteS_item_nil _ _ eg stepN _ _ [] none 0 w.heap.size _ hI hcs (item_ok ⟨hok, inner, hown, hreps⟩ fun _ h => h) (fun k _ h => by cases h)
    · have hBl := hnb B rfl
      exact deleteS_item_some _ _ eg stepN _ _ [] B cap w.heap.size (sortI l0) w _ hI hcs (item_ok ⟨hok, inner, hown, hreps⟩ fun k h => by injection h with h; exact h.symm) (fun k h => by omega) (fun k h => by rw [h]; simp; omega) (fun s W W' hi hg => ⟨hi.1.goes hg (by omega), hg.cell hi.2 (by show ¬ (w2.heap.size + 1 = B); omega)⟩)
  have HG3 := Aside0.mk hg02
  clear hI hcs HR3 hg02
  refine hdel.mono ?_
  rintro e w3 ⟨v3, rfl, ho3, _, hg3⟩
  have HO3 := Aside0.mk ho3
  have HG4 := Aside0.mk hg3
  have HNB := Aside0.mk hnb
  clear ho3 hg3 hdel hnb
  go_wp2
  go_ret
  refine ⟨_, rfl, item_ok HO3.out fun _ _ => trivial, ?_⟩
  have hb2 := HG2.out.below HB1.out HB1.out.size HOB.out
  have hb3 := HG3.out.below hb2 hb2.size (fun _ h => h.elim)
  exact HG4.out.below hb3 hb3.size (fun k hk => by
    rcases hk with hk | hk
    · rw [hk]; exact hb2.size
    · exact HOB.out k hk)
end Go.Proofs.Ytciiodbkhilkmaa.F
