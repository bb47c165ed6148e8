/- ViewMeans, part 5: GDelA. -/
import Derived.OrdersHeld
import Derived.Deep.RegionHeld3
import Derived.Laws.BitsLemmas
import Derived.RowKit
import Derived.Test.YtciiodbkhilkmaaProg
import Derived.Below
import Derived.Deep.Draws
import Derived.Deep.AppendLies
import Derived.Maps.AppendAt
import Derived.OwnWalk
import Derived.Laws.BytesArg
import Derived.Laws.MakeOwn
import Derived.Laws.OwnMore
import Derived.Deep.OwnRows
import Derived.Tactics
import Derived.Lib.ConvBytes
import Derived.Laws.Slices
import Derived.WalkKit
import Derived.KernelRfl
import Derived.RowKit3
import Derived.Deep.LoopGhost
import Derived.Deep.QuietTactic
import Derived.BigQuiet
import Derived.WideLaws
import Derived.Deep.DeepCutAuto
import Derived.Deep.CutBlock
import Derived.Laws.Rows
import Derived.Lib.AppendStr
import Derived.ArgAppend
import Derived.Laws.IdiomCopy
import Derived.Shelf.Abstract
import Derived.Laws.StructEq
import Derived.Test.YtciiodbkhilkmaaQViewMeans0
import Derived.Test.YtciiodbkhilkmaaQViewMeans1
import Derived.Test.YtciiodbkhilkmaaQViewMeans2
import Derived.Test.YtciiodbkhilkmaaQViewMeans4
namespace Go.Proofs.Ytciiodbkhilkmaa.F
set_option linter.unusedVariables false
set_option linter.unusedSimpArgs false
open Go.RowKit Go.Proofs.YtciiodbkhilkmaaW.PrintWords Go.Proofs.YtciiodbkhilkmaaW.PrintLast Go.Proofs.YtciiodbkhilkmaaW.PrintMore
structure Goes (w w' : World) (S : Nat → Prop) : Prop where
  kept : Kept w w' S
  rest : RowKit.Below 0 w w'
section
variable {w w1 w2 : World} {S S' : Nat → Prop}
theorem Goes.refl (w : World) (S : Nat → Prop) : Goes w w S := ⟨Kept.refl _ _, Below.refl _ _⟩
theorem Goes.of_below (h : Below w.heap.size w w1) (S : Nat → Prop) : Goes w w1 S := ⟨Kept.of_below h S, h.mono (Nat.zero_le _)⟩
theorem Goes.then_ (h : Goes w w1 S) (k : Goes w1 w2 S') (hs : ∀ k, S' k → S k ∨ w.heap.size ≤ k) : Goes w w2 S := ⟨h.kept.then_ k.kept hs, h.rest.trans k.rest⟩
theorem Goes.trans (h : Goes w w1 S) (k : Goes w1 w2 S) : Goes w w2 S := h.then_ k fun _ h => .inl h
theorem Goes.mono (h : Goes w w1 S) (hs : ∀ k, S k → S' k) : Goes w w1 S' := ⟨h.kept.mono hs, h.rest⟩
theorem Goes.alloc (h : Goes w w1 S) (o : Obj) : Goes w (w1.alloc o) S := h.then_ (S' := fun _ => False) (Goes.of_below ((Below.refl _ w1).alloc (Nat.le_refl _) o) _) fun _ h => h.elim
theorem Goes.grown {row : Option Nat} (h : Goes w w1 S) (hg : w1.grownBy w2 row) (hr : ∀ k, row = some k → S k ∨ w.heap.size ≤ k) : Goes w w2 S :=
  ⟨Kept.of_grown hg h.kept hr, h.rest.trans ⟨hg.os, hg.tape, hg.output, hg.size, fun _ hk => absurd hk (Nat.not_lt_zero _)⟩⟩
theorem Goes.below {B : Nat} {w0 : World} (h : Goes w w1 S) (hb : Below B w0 w) (hB : B ≤ w.heap.size) (hS : ∀ k, S k → B ≤ k) : Below B w0 w1 :=
  hb.trans ⟨h.rest.os, h.rest.tape, h.rest.output, h.rest.size, fun k hk => h.kept.2 k (Nat.lt_of_lt_of_le hk hB) fun hs => by have := hS k hs; omega⟩
theorem Goes.cell {a : Addr} {v : Value} (h : Goes w w1 S) (hc : w.cell? a = some v) (hn : ¬ S a.block) : w1.cell? a = some v := cell_kept hc h.kept hn
end
section
variable {α σ : Type}
def CallsS (g : Nat) (lb : Array Value) (enc : α → Value) (step : σ → α → Bool × σ) (Inv : σ → World → Prop) (S : Nat → Prop) : Prop :=
  ∀ (s : σ) (W : World) (x : α), Inv s W → Calls Try.prog g (#[enc x] ++ lb) W fun e w' => e = .returned (.bool (step s x).1) ∧ Inv (step s x).2 w' ∧ Goes W w' S
def Runs (step : σ → α → Bool × σ) : σ → List α → σ → Prop
  | s, [], t => s = t
  | s, x :: a, t => (step s x).1 = false ∧ Runs step (step s x).2 a t
theorem Runs.snoc {step : σ → α → Bool × σ} : ∀ {s : σ} {a : List α} {t : σ} {x : α}, Runs step s a t → (step t x).1 = false → Runs step s (a ++ [x]) (step t x).2
  | s, [], t, x, h, hx => by
    have h : s = t := h
    subst h
    exact ⟨hx, rfl⟩
  | s, y :: a, t, x, h, hx => ⟨h.1, Runs.snoc h.2 hx⟩
def Found (step : σ → α → Bool × σ) (s : σ) (l : List α) (i : Int) (s' : σ) : Prop :=
  (i = -1 ∧ Runs step s l s') ∨ ∃ a x r s1, l = a ++ x :: r ∧ i = (a.length : Int) ∧ Runs step s a s1 ∧ step s1 x = (true, s')
end
def encItem (x : S26) : Value := .agg #[.string x.f0, .string x.f1, .int .i64 x.f2, .string x.f3, .int .i64 x.f4, .int .i64 x.f5.f0, .int .i64 x.f5.f1, .int .i64 x.f5.f2]
theorem rdItem_get (l : List S26) (k : Nat) (h : k < l.length) : rd_T26 l (k : Int) = l[k] := by
  simp [rd_T26, List.getD, h]
def PostIS {α σ : Type} (step : σ → α → Bool × σ) (Inv : σ → World → Prop) (S : Nat → Prop) (s0 : σ) (l : List α) (w : World) (e : Ending) (w' : World) : Prop :=
  ∃ (i : Int) (s' : σ), e = .returned (.int .i64 i) ∧ Found step s0 l i s' ∧ Inv s' w' ∧ Goes w w' S
set_option maxHeartbeats 1000000 in
theorem indexS_item {σ : Type} (g : Nat) (lb : Array Value) (eg : EntersB g) (step : σ → S26 → Bool × σ) (Inv : σ → World → Prop) (S : Nat → Prop) (s0 : σ)
    (A0 : Option Addr) (c0 : Nat) (l : List S26) (w : World) (hI : Inv s0 w) (hcs : CallsS g lb encItem step Inv S) (hr : ∀ W', Goes w W' S → Kd.C k26 W' A0 l.length l) :
    Calls Try.prog 101 #[.slice A0 l.length c0, .func (.func g) #[] lb] w (PostIS step Inv S s0 l w) := by
  unfold EntersB at eg
  have hlen : l.length ≤ 9223372036854775807 := (hr w (Goes.refl _ _)).2.1
  have HR := Aside0.mk hr
  have HP := Aside0.mk hcs
  have HI := Aside0.mk hI
  clear hr hcs hI
  go_enter Try.func101, Try.ntmps101
  go_wp2
  go_loopg [5, 8] l.length (fun gg _ s8 wr => ∃ (kk : Nat) (s : σ), kk ≤ l.length ∧ l.length - kk ≤ gg ∧ s8 = .int .i64 kk ∧ Aside0 (Goes w wr S) ∧ Aside0 (Inv s wr) ∧ Aside0 (Runs step s0 (l.take kk) s))
  case atStart => exact ⟨0, s0, Nat.zero_le _, by omega, rfl, ⟨Goes.refl _ _⟩, HI, ⟨rfl⟩⟩
  case round =>
    obtain ⟨kk, s, hkk, hg, rfl, GW, II, AA⟩ := hrel
    by_cases hlt : kk < l.length
    · have hltz : (kk : Int) < (l.length : Int) := by omega
      obtain ⟨ad, rfl, h0, h1, h2, h3, h4, h5, h6, h7⟩ := at_T26 (HR.out wr GW.out) (kk : Int) (by omega) (by omega)
      rw [rdItem_get l kk hlt, Int.toNat_natCast] at h0 h1 h2 h3 h4 h5 h6 h7
      have hcall := HP.out s wr l[kk] II.out
      have hs := Aside0.mk (split_at l kk hlt)
      have ht := Aside0.mk (List.take_succ_eq_append_getElem hlt)
      generalize l[kk] = y at h0 h1 h2 h3 h4 h5 h6 h7 hcall hs ht
      unfold encItem at hcall
      obtain ⟨b, s', hsp0⟩ : ∃ b s', step s y = (b, s') := ⟨_, _, rfl⟩
      rw [hsp0] at hcall
      have hsp := Aside0.mk hsp0
      clear hsp0
      cases b with
      | true =>
        go_wp2_with (go_at_fn g; refine hcall.mono ?_; rintro e w' ⟨rfl, hi', hb'⟩)
        go_ret
        refine ⟨(kk : Int), s', rfl, .inr ⟨l.take kk, y, l.drop (kk + 1), s, hs.out, by rw [List.length_take]; omega, AA.out, hsp.out⟩, hi', GW.out.trans hb'⟩
      | false =>
        go_wp2_with (go_at_fn g; refine hcall.mono ?_; rintro e w' ⟨rfl, hi', hb'⟩)
        go_roundg (l.length - (kk + 1))
        case measure => omega
        case rel =>
          refine ⟨kk + 1, s', by omega, by omega, by go_num, ⟨GW.out.trans hb'⟩, ⟨hi'⟩, ⟨?_⟩⟩
          rw [ht.out]
          have h := Runs.snoc AA.out (x := y) (by rw [hsp.out])
          rw [hsp.out] at h
          exact h
    · have hltz : ¬ (kk : Int) < (l.length : Int) := by omega
      have e : kk = l.length := by omega
      subst e
      go_wp2
      go_ret
      refine ⟨-1, s, rfl, .inl ⟨rfl, ?_⟩, II.out, GW.out⟩
      have h3 := AA.out
      rw [List.take_length] at h3
      exact h3
end Go.Proofs.Ytciiodbkhilkmaa.F
