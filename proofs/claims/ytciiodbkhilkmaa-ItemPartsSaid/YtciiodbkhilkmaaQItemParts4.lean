/- ItemParts, part 4: GPred. -/
import Derived.Shelf.Abstract
import Derived.OrdersHeld
import Derived.Deep.RegionHeld3
import Derived.Laws.BitsLemmas
import Derived.RowKit
import Derived.Test.YtciiodbkhilkmaaProg
import Derived.WalkKit
import Derived.Below
import Derived.Deep.Draws
import Derived.Deep.AppendLies
import Derived.Maps.AppendAt
import Derived.OwnWalk
import Derived.Laws.BytesArg
import Derived.Laws.MakeOwn
import Derived.Laws.OwnMore
import Derived.Deep.OwnRows
import Derived.Tactics
import Derived.Lib.ConvBytes
import Derived.Laws.Slices
import Derived.KernelRfl
import Derived.RowKit3
import Derived.Deep.LoopGhost
import Derived.Deep.QuietTactic
import Derived.BigQuiet
import Derived.WideLaws
import Derived.Deep.DeepCutAuto
import Derived.Deep.CutBlock
import Derived.Laws.Rows
import Derived.Lib.AppendStr
import Derived.ArgAppend
import Derived.Laws.IdiomCopy
import Derived.Laws.StructEq
import Derived.Test.YtciiodbkhilkmaaQItemParts0
import Derived.Test.YtciiodbkhilkmaaQItemParts1
import Derived.Test.YtciiodbkhilkmaaQItemParts2
namespace Go.Proofs.Ytciiodbkhilkmaa.F
set_option linter.unusedVariables false
set_option linter.unusedSimpArgs false
open Go.RowKit Go.Proofs.YtciiodbkhilkmaaW.PrintWords Go.Proofs.YtciiodbkhilkmaaW.PrintLast Go.Proofs.YtciiodbkhilkmaaW.PrintMore
def PredB {α : Type} (g : Nat) (lb : Array Value) (enc : α → Value) (p : α → Bool) (w : World) : Prop :=
  ∀ (W : World) (x : α), Below w.heap.size w W → Calls Try.prog g (#[enc x] ++ lb) W fun e w' => e = .returned (.bool (p x)) ∧ Below W.heap.size W w'
def EntersB (g : Nat) : Prop := ∀ args w, (callFunc g args).run Try.prog w = .ok (.enter g args) w
def idxP {α : Type} (p : α → Bool) : List α → Int → Int
  | [], _ => -1
  | x :: l, i => if p x = true then i else idxP p l (i + 1)
theorem idxP_miss {α : Type} (p : α → Bool) : ∀ (l : List α) (i : Int), (∀ x ∈ l, p x = false) → idxP p l i = -1
  | [], _, _ => rfl
  | x :: l, i, h => by
    unfold idxP
    rw [if_neg (by rw [h x (by simp)]; simp), idxP_miss p l (i + 1) fun y hy => h y (by simp [hy])]
theorem idxP_hit {α : Type} (p : α → Bool) (x : α) (r : List α) (hx : p x = true) : ∀ (l : List α) (i : Int), (∀ x ∈ l, p x = false) → idxP p (l ++ x :: r) i = i + l.length
  | [], i, _ => by unfold idxP; simp [hx]
  | y :: l, i, h => by
    show idxP p (y :: (l ++ x :: r)) i = _
    unfold idxP
    rw [if_neg (by rw [h y (by simp)]; simp), idxP_hit p x r hx l (i + 1) fun z hz => h z (by simp [hz])]
    simp; omega
theorem idxP_any {α : Type} (p : α → Bool) : ∀ (l : List α) (i : Int), 0 ≤ i → (idxP p l i ≥ 0) = (l.any p = true)
  | [], _, _ => by simp [idxP]
  | x :: l, i, h => by
    unfold idxP
    cases hx : p x with
    | true => simp [hx, h]
    | false =>
      have := idxP_any p l (i + 1) (by omega)
      simpa [hx] using this
theorem split_at {α : Type} (l : List α) (k : Nat) (h : k < l.length) : l = l.take k ++ l[k] :: l.drop (k + 1) := by
  rw [← List.drop_eq_getElem_cons h, List.take_append_drop]
theorem rdOf_get {α : Type} (d : α) (l : List α) (k : Nat) (h : k < l.length) : rdOf d l (k : Int) = l[k] := by
  simp [rdOf, List.getD, h]
set_option maxHeartbeats 1000000 in
theorem indexFunc_str (g : Nat) (lb : Array Value) (eg : EntersB g) (A0 : Option Addr) (c0 : Nat) (l : List ByteArray) (p : ByteArray → Bool) (w : World) (hp : PredB g lb Value.string p w) (hr0 : Kd.C Kd.string w A0 l.length l) :
    Calls Try.prog 94 #[.slice A0 l.length c0, .func (.func g) #[] lb] w fun e w' => e = .returned (.int .i64 (idxP p l 0)) ∧ Below w.heap.size w w' := by
  unfold EntersB at eg
  have hlen : l.length ≤ 9223372036854775807 := hr0.2.1
  have HR := Aside0.mk hr0
  have HP := Aside0.mk hp
  clear hr0 hp
  go_enter Try.func94, Try.ntmps94
  go_wp2
  go_loopg [5, 8] l.length (fun gg _ s8 wr => ∃ kk : Nat, kk ≤ l.length ∧ l.length - kk ≤ gg ∧ s8 = .int .i64 kk ∧ Aside0 (Below w.heap.size w wr) ∧ Aside0 (∀ x ∈ l.take kk, p x = false))
  case atStart => exact ⟨0, Nat.zero_le _, by omega, rfl, ⟨Below.refl _ w⟩, ⟨by simp⟩⟩
  case round =>
    obtain ⟨kk, hkk, hg, rfl, BW, AA⟩ := hrel
    by_cases hlt : kk < l.length
    · have hltz : (kk : Int) < (l.length : Int) := by omega
      obtain ⟨ad, rfl, hc⟩ := Kd.at_string (Kd.C_below HR.out BW.out) (kk : Int) (by omega) (by omega)
      rw [rdOf_get _ l kk hlt, Int.toNat_natCast] at hc
      have hcall := HP.out wr l[kk] BW.out
      have hs := Aside0.mk (split_at l kk hlt)
      generalize l[kk] = y at hc hcall hs
      cases hq : p y with
      | true =>
        rw [hq] at hcall
        go_wp2_with (go_at_fn g; refine hcall.mono ?_; rintro e w' ⟨rfl, hb'⟩)
        go_ret
        refine ⟨?_, BW.out.trans (hb'.mono BW.out.size)⟩
        have h2 : idxP p l 0 = (kk : Int) := by
          have h3 := idxP_hit p y (l.drop (kk + 1)) hq (l.take kk) 0 AA.out
          rw [← hs.out] at h3
          rw [h3, List.length_take]
          omega
        rw [h2]
        rfl
      | false =>
        rw [hq] at hcall
        go_wp2_with (go_at_fn g; refine hcall.mono ?_; rintro e w' ⟨rfl, hb'⟩)
        go_roundg (l.length - (kk + 1))
        case measure => omega
        case rel =>
          refine ⟨kk + 1, by omega, by omega, by go_num, ⟨BW.out.trans (hb'.mono BW.out.size)⟩, ⟨fun x hx => ?_⟩⟩
          have h1 : l.take (kk + 1) = l.take kk ++ [y] := by
            rw [List.take_succ_eq_append_getElem hlt]
            congr 2
            have h4 := hs.out
            have h5 : l[kk]? = some y := by
              rw [h4, List.getElem?_append_right (by simp; omega)]
              simp [Nat.min_eq_left (Nat.le_of_lt hlt)]
            rw [List.getElem?_eq_getElem hlt] at h5
            exact Option.some.inj h5
          rw [h1] at hx
          rcases List.mem_append.1 hx with h | h
          · exact AA.out x h
          · rw [List.mem_singleton.1 h]; exact hq
    · have hltz : ¬ (kk : Int) < (l.length : Int) := by omega
      have e : kk = l.length := by omega
      subst e
      go_wp2
      go_ret
      refine ⟨?_, BW.out⟩
      have h3 := AA.out
      rw [List.take_length] at h3
      rw [idxP_miss p l 0 h3]
      rfl
theorem containsFunc_str (g : Nat) (lb : Array Value) (eg : EntersB g) (A0 : Option Addr) (c0 : Nat) (l : List ByteArray) (p : ByteArray → Bool) (w : World) (hp : PredB g lb Value.string p w) (hr0 : Kd.C Kd.string w A0 l.length l) :
    Calls Try.prog 70 #[.slice A0 l.length c0, .func (.func g) #[] lb] w fun e w' => e = .returned (.bool (l.any p)) ∧ Below w.heap.size w w' := by
  have hcall := indexFunc_str g lb eg A0 c0 l p w hp hr0
  have ha := idxP_any p l 0 (Int.le_refl 0)
  clear hp hr0
  generalize idxP p l 0 = i at hcall ha
  have HA := Aside0.mk ha
  clear ha
  cases hb : l.any p with
  | true =>
    have hi : 0 ≤ i := by have := HA.out; rw [hb] at this; simpa using this
    clear hb
    go_enter Try.func70, Try.ntmps70
    go_wp2_with (go_at_call 94; refine hcall.mono ?_; rintro e w' ⟨rfl, hb'⟩)
    go_ret
    exact ⟨rfl, hb'⟩
  | false =>
    have hi : ¬ 0 ≤ i := by have := HA.out; rw [hb] at this; simpa using this
    clear hb
    go_enter Try.func70, Try.ntmps70
    go_wp2_with (go_at_call 94; refine hcall.mono ?_; rintro e w' ⟨rfl, hb'⟩)
    go_ret
    exact ⟨by simp; omega, hb'⟩
end Go.Proofs.Ytciiodbkhilkmaa.F
