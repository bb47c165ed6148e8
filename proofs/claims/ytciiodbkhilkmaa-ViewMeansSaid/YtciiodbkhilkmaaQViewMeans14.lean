/- ViewMeans, part 14: GItemA. -/
import Derived.Lib.SliceRun
import Derived.OrdersHeld
import Derived.Deep.RegionHeld3
import Derived.Laws.BitsLemmas
import Derived.RowKit
import Derived.Test.YtciiodbkhilkmaaProg
import Derived.Below
import Derived.Deep.Draws
import Derived.Deep.AppendLies
import Derived.Maps.AppendAt
import Derived.OwnWalk
import Derived.Laws.BytesArg
import Derived.Laws.MakeOwn
import Derived.Laws.OwnMore
import Derived.Deep.OwnRows
import Derived.Tactics
import Derived.Lib.ConvBytes
import Derived.Laws.Slices
import Derived.WalkKit
import Derived.KernelRfl
import Derived.RowKit3
import Derived.Deep.LoopGhost
import Derived.Deep.QuietTactic
import Derived.BigQuiet
import Derived.WideLaws
import Derived.Deep.DeepCutAuto
import Derived.Deep.CutBlock
import Derived.Laws.Rows
import Derived.Lib.AppendStr
import Derived.ArgAppend
import Derived.Laws.IdiomCopy
import Derived.Shelf.Abstract
import Derived.Laws.StructEq
import Derived.Lib.Strings
import Derived.Test.YtciiodbkhilkmaaQViewMeans0
import Derived.Test.YtciiodbkhilkmaaQViewMeans1
import Derived.Test.YtciiodbkhilkmaaQViewMeans2
import Derived.Test.YtciiodbkhilkmaaQViewMeans4
import Derived.Test.YtciiodbkhilkmaaQViewMeans5
import Derived.Test.YtciiodbkhilkmaaQViewMeans7
import Derived.Test.YtciiodbkhilkmaaQViewMeans8
import Derived.Test.YtciiodbkhilkmaaQViewMeans11
import Derived.Test.YtciiodbkhilkmaaQViewMeans12
namespace Go.Proofs.Ytciiodbkhilkmaa.F
set_option linter.unusedVariables false
set_option linter.unusedSimpArgs false
open Go.RowKit Go.Proofs.YtciiodbkhilkmaaW.PrintWords Go.Proofs.YtciiodbkhilkmaaW.PrintLast Go.Proofs.YtciiodbkhilkmaaW.PrintMore
section
variable {α : Type}
def plainS (p : α → Bool) : Unit → α → Bool × Unit := fun _ x => (p x, ())
theorem keepS_plain (p : α → Bool) : ∀ l : List α, (keepS (plainS p) () l).1 = l.filter fun x => !p x
  | [] => rfl
  | x :: l => by
    have h := keepS_plain p l
    unfold keepS
    cases hx : p x <;> simp [plainS, hx] <;> exact h
end
theorem deleteP_item (g : Nat) (lb : Array Value) (eg : EntersB g) (p : S26 → Bool) (v : Value) (l : List S26) (base : Nat) (w : World) (ho : Kd.R k26 26 w base (fun _ => True) v l)
    (hp : ∀ (W : World) (x : S26), Goes w W (fun k => v.ownBlock = some k) → Calls Try.prog g (#[encItem x] ++ lb) W fun e w' => e = .returned (.bool (p x)) ∧ Below W.heap.size W w') :
    Calls Try.prog 76 #[v, .func (.func g) #[] lb] w fun e w' => ∃ v1, e = .returned v1 ∧ Kd.R k26 26 w' base (fun _ => True) v1 (l.filter fun x => !p x) ∧ Goes w w' (fun k => v.ownBlock = some k) := by
  have hcs : CallsS g lb encItem (plainS p) (fun _ W => Goes w W (fun k => v.ownBlock = some k)) (fun _ => False) := fun s W x hI =>
    (hp W x hI).mono fun e w' ⟨he, hb⟩ => ⟨he, hI.then_ (Goes.of_below hb (fun _ => False)) (fun _ h => h.elim), Goes.of_below hb _⟩
  obtain ⟨hok, inner, hown, hreps⟩ := ho
  have hpost : ∀ e w', PostDS (plainS p) (fun _ W => Goes w W (fun k => v.ownBlock = some k)) (fun _ => False) () l base v w e w' → ∃ v1, e = .returned v1 ∧ Kd.R k26 26 w' base (fun _ => True) v1 (l.filter fun x => !p x) ∧ Goes w w' (fun k => v.ownBlock = some k) := by
    rintro e w' ⟨v1, he, hR, hI, _⟩
    rw [keepS_plain] at hR
    exact ⟨v1, he, item_ok hR fun _ _ => trivial, hI⟩
  rcases hown.2 with ⟨rfl, hn⟩ | ⟨B, cap, cur, rfl, hB, _⟩
  · have h0 : l = [] := List.length_eq_zero_iff.1 hn
    subst h0
    exact (deleteS_item_nil g lb eg (plainS p) (fun _ W => Goes w W (fun k => (Value.slice none 0 0).ownBlock = some k)) (fun _ => False) () none 0 base w (Goes.refl _ _) hcs (item_ok ⟨hok, inner, hown, hreps⟩ fun _ h => h) (fun _ h => h.elim)).mono hpost
  · have e : (fun k => (Value.slice (some ⟨B, 0, none⟩) l.length cap).ownBlock = some k) = fun k => k = B := by
      funext k
      show (some B = some k) = _
      exact propext ⟨fun h => by injection h with h; exact h.symm, fun h => by rw [h]⟩
    refine (deleteS_item_some g lb eg (plainS p) (fun _ W => Goes w W (fun k => (Value.slice (some ⟨B, 0, none⟩) l.length cap).ownBlock = some k)) (fun _ => False) () B cap base l w w (Goes.refl _ _) hcs (item_ok ⟨hok, inner, hown, hreps⟩ fun k h => by injection h with h; exact h.symm) (fun _ h => h.elim) (fun _ h => h.elim) (fun _ W W' h h2 => ?_)).mono hpost
    rw [e] at h ⊢
    exact h.trans h2
theorem of_pred (key : ByteArray) (b : Nat) (W : World) (x : S26) (hc : W.cell? ⟨b, 0, none⟩ = some (.string key)) :
    Calls Try.prog 78 (#[encItem x] ++ #[.pointer (some ⟨b, 0, none⟩)]) W fun e w' => e = .returned (.bool !(x.f0.toList == key.toList)) ∧ Below W.heap.size W w' := by
  have hlt := World.block_lt_of_cell? W _ hc
  have hne : b ≠ W.heap.size := Nat.ne_of_lt hlt
  show Calls Try.prog 78 #[.agg #[.string x.f0, .string x.f1, .int .i64 x.f2, .string x.f3, .int .i64 x.f4, .int .i64 x.f5.f0, .int .i64 x.f5.f1, .int .i64 x.f5.f2], .pointer (some ⟨b, 0, none⟩)] W _
  go_enter Try.func78, Try.ntmps78
  go_wp2
  go_ret
  exact ⟨rfl, (Below.refl _ _).alloc (Nat.le_refl _) _⟩
def item_Of.f (l0 : List (S26)) (a1 : ByteArray) : Option (List (S26)) := if l0.length < lim then some (l0.filter fun x => x.f0.toList == a1.toList) else none
set_option maxRecDepth 100000 in
theorem item_Of.calls (A0 : Option Addr) (c0 : Nat) (l0 : List (S26)) (a1 : ByteArray) (r : List (S26)) (w : World) (hr0 : Kd.C k26 w A0 l0.length l0) (_hc0 : l0.length ≤ c0) (h : item_Of.f l0 a1 = some r) :
    Calls Try.prog 38 #[.slice A0 l0.length c0, .string a1] w fun e w' => ∃ v0_ : Value, e = .returned (v0_) ∧ Kd.R k26 26 w' w.heap.size (fun _ => True) v0_ r ∧ Below w.heap.size w w' := by
  unfold item_Of.f at h
  split at h
  case isFalse => cases h
  rename_i hl
  obtain rfl := Option.some.inj h
  clear h
  have hb0 : Below w.heap.size w (w.alloc (.cells #[.string a1] 9)) := (Below.refl _ w).alloc (Nat.le_refl _) _
  have eg : EntersB 78 := fun _ _ => enters_of Try.func78 (by kernel_rfl) rfl _ _
  have hcl := clone_item A0 c0 l0 (w.alloc (.cells #[.string a1] 9)) (Kd.C_below hr0 hb0) hl
  have HB0 := Aside0.mk hb0
  clear hr0 hl hb0
  go_enter Try.func38, Try.ntmps38
  go_wp2_with fail
  refine hcl.mono ?_
  rintro e w1 ⟨v1, rfl, ho1, hb1⟩
  have hcell : w1.cell? ⟨w.heap.size, 0, none⟩ = some (.string a1) := (hb1.cell (p := ⟨w.heap.size, 0, none⟩) (by simp)).trans (by simp)
  have hob : ∀ k, v1.ownBlock = some k → (w.alloc (.cells #[.string a1] 9)).heap.size ≤ k := fun k hk => by
    obtain ⟨_, inner, hown, _⟩ := ho1
    exact own_base hown k hk
  have hdel := deleteP_item 78 #[.pointer (some ⟨w.heap.size, 0, none⟩)] eg (fun x => !(x.f0.toList == a1.toList)) v1 l0 _ w1 ho1 (fun W x hg => of_pred a1 w.heap.size W x (hg.cell hcell (fun hk => by have := hob _ hk; simp at this; omega)))
  have HOB := Aside0.mk hob
  have HB1 := Aside0.mk hb1
  clear ho1 hob hcell hb1 hcl
  go_wp2_with fail
  refine hdel.mono ?_
  rintro e w2 ⟨v2, rfl, ho2, hg2⟩
  have HO2 := Aside0.mk ho2
  have HG2 := Aside0.mk hg2
  clear hdel ho2 hg2
  go_wp2
  go_ret
  refine ⟨_, rfl, ?_, ?_⟩
  · have h := Kd.R_lower HO2.out (base' := w.heap.size) (by simp)
    simpa using h
  · have h := HG2.out.below (B := w.heap.size) (w0 := w) (HB0.out.trans (HB1.out.mono (by simp))) (by have := HB1.out.size; simp at this; omega) (fun k hk => by have := HOB.out k hk; simp at this; omega)
    exact h
end Go.Proofs.Ytciiodbkhilkmaa.F
