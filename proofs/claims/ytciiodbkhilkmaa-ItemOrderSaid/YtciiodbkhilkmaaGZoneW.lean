/- zone.Without at any lists, and the library's sort and Compact in the form that the printed callers take. -/
import Derived.Test.YtciiodbkhilkmaaGDelS
import Derived.Test.YtciiodbkhilkmaaGItemA
import Derived.Test.YtciiodbkhilkmaaGOnce
namespace Go.Proofs.Ytciiodbkhilkmaa.F
set_option linter.unusedVariables false
set_option linter.unusedSimpArgs false
open Go.RowKit Go.Proofs.YtciiodbkhilkmaaW.PrintWords Go.Proofs.YtciiodbkhilkmaaW.PrintLast Go.Proofs.YtciiodbkhilkmaaW.PrintMore
/-- slices.DeleteFunc(slices.Clone(l), f): the row is the call's own and new; f answers p and turns nothing. -/
theorem deleteP_str (g : Nat) (lb : Array Value) (eg : EntersB g) (p : ByteArray → Bool) (v : Value) (l : List ByteArray) (base : Nat) (w : World) (ho : Kd.R Kd.string 9 w base (fun _ => True) v l)
    (hp : ∀ (W : World) (x : ByteArray), Goes w W (fun k => v.ownBlock = some k) → Calls Try.prog g (#[Value.string x] ++ lb) W fun e w' => e = .returned (.bool (p x)) ∧ Below W.heap.size W w') :
    Calls Try.prog 80 #[v, .func (.func g) #[] lb] w fun e w' => ∃ v1, e = .returned v1 ∧ Kd.R Kd.string 9 w' base (fun _ => True) v1 (l.filter fun x => !p x) ∧ Goes w w' (fun k => v.ownBlock = some k) := by
  have hcs : CallsS g lb Value.string (plainS p) (fun _ W => Goes w W (fun k => v.ownBlock = some k)) (fun _ => False) := fun s W x hI =>
    (hp W x hI).mono fun e w' ⟨he, hb⟩ => ⟨he, hI.then_ (Goes.of_below hb (fun _ => False)) (fun _ h => h.elim), Goes.of_below hb _⟩
  obtain ⟨hok, inner, hown, hreps⟩ := ho
  have hpost : ∀ e w', PostDSs (plainS p) (fun _ W => Goes w W (fun k => v.ownBlock = some k)) (fun _ => False) () l base v w e w' → ∃ v1, e = .returned v1 ∧ Kd.R Kd.string 9 w' base (fun _ => True) v1 (l.filter fun x => !p x) ∧ Goes w w' (fun k => v.ownBlock = some k) := by
    rintro e w' ⟨v1, he, hR, hI, _⟩
    rw [keepS_plain] at hR
    exact ⟨v1, he, str_ok hR fun _ _ => trivial, hI⟩
  rcases hown.2 with ⟨rfl, hn⟩ | ⟨B, cap, cur, rfl, hB, _⟩
  · have h0 : l = [] := List.length_eq_zero_iff.1 hn
    subst h0
    exact (deleteS_str_nil g lb eg (plainS p) (fun _ W => Goes w W (fun k => (Value.slice none 0 0).ownBlock = some k)) (fun _ => False) () none 0 base w (Goes.refl _ _) hcs (str_ok ⟨hok, inner, hown, hreps⟩ fun _ h => h) (fun _ h => h.elim)).mono hpost
  · have e : (fun k => (Value.slice (some ⟨B, 0, none⟩) l.length cap).ownBlock = some k) = fun k => k = B := by
      funext k
      show (some B = some k) = _
      exact propext ⟨fun h => by injection h with h; exact h.symm, fun h => by rw [h]⟩
    refine (deleteS_str_some g lb eg (plainS p) (fun _ W => Goes w W (fun k => (Value.slice (some ⟨B, 0, none⟩) l.length cap).ownBlock = some k)) (fun _ => False) () B cap base l w w (Goes.refl _ _) hcs (str_ok ⟨hok, inner, hown, hreps⟩ fun k h => by injection h with h; exact h.symm) (fun _ h => h.elim) (fun _ h => h.elim) (fun _ W W' h h2 => ?_)).mono hpost
    rw [e] at h ⊢
    exact h.trans h2



theorem zwithout_pred (A1 : Option Addr) (c1 : Nat) (l1 : List ByteArray) (b : Nat) (W : World) (x : ByteArray) (hc : W.cell? ⟨b, 0, none⟩ = some (.slice A1 l1.length c1)) (hr1 : Kd.C Kd.string W A1 l1.length l1) (hc1 : l1.length ≤ c1) :
    Calls Try.prog 82 (#[Value.string x] ++ #[.pointer (some ⟨b, 0, none⟩)]) W fun e w' => e = .returned (.bool (coversL l1 x)) ∧ Below W.heap.size W w' := by
  have hcall := zone_Covers.calls A1 c1 l1 x _ W hr1 hc1 rfl
  clear hr1
  show Calls Try.prog 82 #[.string x, .pointer (some ⟨b, 0, none⟩)] W fun e w' => e = .returned (.bool (coversL l1 x)) ∧ Below W.heap.size W w'
  generalize coversL l1 x = r at hcall ⊢
  go_enter Try.func82, Try.ntmps82
  go_wp2_with (go_at_call 32; refine hcall.mono ?_; rintro e w' ⟨rfl, hb'⟩)
  go_ret
  exact ⟨rfl, hb'⟩
def zone_Without.f (l0 : List ByteArray) (l1 : List ByteArray) : Option (List ByteArray) := if l0.length < lim then some (onceL (l0.filter fun p => !coversL l1 p)) else none
set_option maxRecDepth 100000 in
theorem zone_Without.calls (A0 : Option Addr) (c0 : Nat) (l0 : List ByteArray) (A1 : Option Addr) (c1 : Nat) (l1 : List ByteArray) (r : List ByteArray) (w : World) (hr0 : Kd.C Kd.string w A0 l0.length l0) (_hc0 : l0.length ≤ c0) (hr1 : Kd.C Kd.string w A1 l1.length l1) (hc1 : l1.length ≤ c1) (h : zone_Without.f l0 l1 = some r) :
    Calls Try.prog 41 #[.slice A0 l0.length c0, .slice A1 l1.length c1] w fun e w' => ∃ v0_ : Value, e = .returned (v0_) ∧ Kd.R Kd.string 9 w' w.heap.size (fun _ => True) v0_ r ∧ Below w.heap.size w w' := by
  unfold zone_Without.f at h
  split at h
  case isFalse => cases h
  rename_i hl
  obtain rfl := Option.some.inj h
  clear h
  have hb0 : Below w.heap.size w (w.alloc (.cells #[.slice A1 l1.length c1] 29)) := (Below.refl _ w).alloc (Nat.le_refl _) _
  have eg : EntersB 82 := fun _ _ => enters_of Try.func82 (by kernel_rfl) rfl _ _
  have hcl := clone_str A0 c0 l0 (w.alloc (.cells #[.slice A1 l1.length c1] 29)) (Kd.C_below hr0 hb0) hl
  have HB0 := Aside0.mk hb0
  have HL := Aside0.mk hl
  have HR1 := Aside0.mk hr1
  clear hr0 hl hb0 hr1
  go_enter Try.func41, Try.ntmps41
  go_wp2_with fail
  refine hcl.mono ?_
  rintro e w1 ⟨v1, rfl, ho1, hb1⟩
  have hcell : w1.cell? ⟨w.heap.size, 0, none⟩ = some (.slice A1 l1.length c1) := (hb1.cell (p := ⟨w.heap.size, 0, none⟩) (by simp)).trans (by simp)
  have hb01 := HB0.out.trans (hb1.mono (by simp))
  have hob : ∀ k, v1.ownBlock = some k → (w.alloc (.cells #[.slice A1 l1.length c1] 29)).heap.size ≤ k := fun k hk => by
    obtain ⟨_, inner, hown, _⟩ := ho1
    exact own_base hown k hk
  have hdel := deleteP_str 82 #[.pointer (some ⟨w.heap.size, 0, none⟩)] eg (fun x => coversL l1 x) v1 l0 _ w1 ho1 (fun W x hg => zwithout_pred A1 c1 l1 w.heap.size W x (hg.cell hcell (fun hk => by have := hob _ hk; simp at this; omega)) (Kd.C_below HR1.out (hg.below hb01 hb01.size (fun k hk => by have := hob _ hk; simp at this; omega))) hc1)
  have HOB := Aside0.mk hob
  have HB1 := Aside0.mk hb1
  clear ho1 hob hcell hb1 hcl hb01
  go_wp2_with fail
  refine hdel.mono ?_
  rintro e w2 ⟨v2, rfl, ho2, hg2⟩
  obtain ⟨A2, c2, rfl, hle2, hread2⟩ := Kd.R_reads ho2
  have hon := zone_once.calls A2 c2 _ _ w2 hread2 hle2 (by unfold zone_once.f; rw [if_pos (Nat.lt_of_le_of_lt (List.length_filter_le _ _) HL.out)])
  have HG2 := Aside0.mk hg2
  clear hdel ho2 hg2 hread2
  go_wp2_with fail
  refine hon.mono ?_
  rintro e w3 ⟨v3, rfl, ho3, hb3⟩
  have HO3 := Aside0.mk ho3
  have HB3 := Aside0.mk hb3
  clear hon ho3 hb3
  go_wp2
  go_ret
  have hb2 := HG2.out.below (B := w.heap.size) (w0 := w) (HB0.out.trans (HB1.out.mono (by simp))) (by have := HB1.out.size; simp at this; omega) (fun k hk => by have := HOB.out k hk; simp at this; omega)
  exact ⟨_, rfl, Kd.R_lower HO3.out hb2.size, hb2.trans (HB3.out.mono hb2.size)⟩

def slices_Sort_string_string.f (l0 : List ByteArray) : Option (List ByteArray) := if l0.length < lim then some (((l0.map bl).mergeSort fun x y => decide (x ≤ y)).map mkB) else none
theorem slices_Sort_string_string.calls (P0_ : Nat → Prop) (u9000_ : Value) (l0 : List ByteArray) (r : List ByteArray) (w0 w : World) (hB : Below w0.heap.size w0 w) (ho0 : Kd.R Kd.string 9 w w0.heap.size P0_ u9000_ l0) (h : slices_Sort_string_string.f l0 = some r) :
    Calls Try.prog 88 #[u9000_] w fun e w' => e = .returned (.tuple #[]) ∧ Kd.R Kd.string 9 w' w0.heap.size (fun k_ => (P0_ k_ ∨ w.heap.size ≤ k_)) u9000_ r ∧ Below w0.heap.size w0 w' ∧ Kept w w' (fun k_ => P0_ k_) := by
  unfold slices_Sort_string_string.f at h
  split at h
  case isFalse => cases h
  rename_i hl
  obtain rfl := Option.some.inj h
  have hob : ∀ k, u9000_.ownBlock = some k → w0.heap.size ≤ k ∧ P0_ k := fun k hk => by
    obtain ⟨hok, inner, hown, _⟩ := ho0
    exact ⟨own_base hown k hk, hok k hk⟩
  exact (sort_str u9000_ l0 w0.heap.size P0_ w ho0 hl).mono fun e w' ⟨he, hR, hg⟩ => ⟨he, Kd.R_mono hR fun k hk => .inl hk, hg.below hB hB.size fun k hk => (hob k hk).1, hg.kept.mono fun k hk => (hob k hk).2⟩
def slices_Compact_string_string.f (l0 : List ByteArray) : Option (List ByteArray) := if l0.length < lim then some ((Lib.compact (l0.map bl)).map mkB) else none
theorem slices_Compact_string_string.calls (P0_ : Nat → Prop) (u9000_ : Value) (l0 : List ByteArray) (r : List ByteArray) (w0 w : World) (hB : Below w0.heap.size w0 w) (ho0 : Kd.R Kd.string 9 w w0.heap.size P0_ u9000_ l0) (h : slices_Compact_string_string.f l0 = some r) :
    Calls Try.prog 89 #[u9000_] w fun e w' => ∃ v0_ : Value, e = .returned (v0_) ∧ Kd.R Kd.string 9 w' w0.heap.size (fun k_ => (P0_ k_ ∨ w.heap.size ≤ k_)) v0_ r ∧ Below w0.heap.size w0 w' ∧ Kept w w' (fun k_ => P0_ k_) := by
  unfold slices_Compact_string_string.f at h
  split at h
  case isFalse => cases h
  rename_i hl
  obtain rfl := Option.some.inj h
  have hob : ∀ k, u9000_.ownBlock = some k → w0.heap.size ≤ k ∧ P0_ k := fun k hk => by
    obtain ⟨hok, inner, hown, _⟩ := ho0
    exact ⟨own_base hown k hk, hok k hk⟩
  exact (compact_str u9000_ l0 w0.heap.size P0_ w ho0 hl).mono fun e w' ⟨v1, he, hR, hg⟩ => ⟨v1, he, Kd.R_mono hR fun k hk => .inl hk, hg.below hB hB.size fun k hk => (hob k hk).1, hg.kept.mono fun k hk => (hob k hk).2⟩
end Go.Proofs.Ytciiodbkhilkmaa.F
