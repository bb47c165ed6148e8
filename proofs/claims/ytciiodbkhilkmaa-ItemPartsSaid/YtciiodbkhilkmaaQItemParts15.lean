/- ItemParts, part 15: GItemB. -/
import Derived.Lib.SliceRun
import Derived.Lib.Strings
import Derived.Laws.StructEq
import Derived.OrdersHeld
import Derived.Deep.RegionHeld3
import Derived.Laws.BitsLemmas
import Derived.RowKit
import Derived.Test.YtciiodbkhilkmaaProg
import Derived.WalkKit
import Derived.Below
import Derived.Deep.Draws
import Derived.Deep.AppendLies
import Derived.Maps.AppendAt
import Derived.OwnWalk
import Derived.Laws.BytesArg
import Derived.Laws.MakeOwn
import Derived.Laws.OwnMore
import Derived.Deep.OwnRows
import Derived.Tactics
import Derived.Lib.ConvBytes
import Derived.Laws.Slices
import Derived.KernelRfl
import Derived.RowKit3
import Derived.Deep.LoopGhost
import Derived.Deep.QuietTactic
import Derived.BigQuiet
import Derived.WideLaws
import Derived.Deep.DeepCutAuto
import Derived.Deep.CutBlock
import Derived.Laws.Rows
import Derived.Lib.AppendStr
import Derived.ArgAppend
import Derived.Laws.IdiomCopy
import Derived.Shelf.Abstract
import Derived.Test.YtciiodbkhilkmaaQItemParts0
import Derived.Test.YtciiodbkhilkmaaQItemParts1
import Derived.Test.YtciiodbkhilkmaaQItemParts2
import Derived.Test.YtciiodbkhilkmaaQItemParts4
import Derived.Test.YtciiodbkhilkmaaQItemParts5
import Derived.Test.YtciiodbkhilkmaaQItemParts7
import Derived.Test.YtciiodbkhilkmaaQItemParts8
import Derived.Test.YtciiodbkhilkmaaQItemParts11
import Derived.Test.YtciiodbkhilkmaaQItemParts12
import Derived.Test.YtciiodbkhilkmaaQItemParts14
namespace Go.Proofs.Ytciiodbkhilkmaa.F
set_option linter.unusedVariables false
set_option linter.unusedSimpArgs false
open Go.RowKit Go.Proofs.YtciiodbkhilkmaaW.PrintWords Go.Proofs.YtciiodbkhilkmaaW.PrintLast Go.Proofs.YtciiodbkhilkmaaW.PrintMore
theorem Goes_reads {α : Type} {d : Kd α} {w w1 W : World} {A : Option Addr} {n : Nat} {xs : List α} {S : Nat → Prop} (h : Kd.C d w A n xs) (hb : Below w.heap.size w w1) (hg : Goes w1 W S) (hS : ∀ k, S k → w.heap.size ≤ k) : Kd.C d W A n xs :=
  Kd.C_below h (hg.below hb hb.size hS)
theorem under_pred (A1 : Option Addr) (c1 : Nat) (l1 : List ByteArray) (b : Nat) (W : World) (x : S26) (hc : W.cell? ⟨b, 0, none⟩ = some (.slice A1 l1.length c1)) (hr1 : Kd.C Kd.string W A1 l1.length l1) (hc1 : l1.length ≤ c1) :
    Calls Try.prog 85 (#[encItem x] ++ #[.pointer (some ⟨b, 0, none⟩)]) W fun e w' => e = .returned (.bool !(coversL l1 x.f0)) ∧ Below W.heap.size W w' := by
  have hlt := World.block_lt_of_cell? W _ hc
  have hne : b ≠ W.heap.size := Nat.ne_of_lt hlt
  have hcall := zone_Covers.calls A1 c1 l1 x.f0 _ (W.alloc (.cells #[.string x.f0, .string x.f1, .int .i64 x.f2, .string x.f3, .int .i64 x.f4, .int .i64 x.f5.f0, .int .i64 x.f5.f1, .int .i64 x.f5.f2] 26)) (Kd.C_below hr1 ((Below.refl _ _).alloc (Nat.le_refl _) _)) hc1 rfl
  clear hr1
  show Calls Try.prog 85 #[.agg #[.string x.f0, .string x.f1, .int .i64 x.f2, .string x.f3, .int .i64 x.f4, .int .i64 x.f5.f0, .int .i64 x.f5.f1, .int .i64 x.f5.f2], .pointer (some ⟨b, 0, none⟩)] W fun e w' => e = .returned (.bool !(coversL l1 x.f0)) ∧ Below W.heap.size W w'
  generalize coversL l1 x.f0 = r at hcall ⊢
  go_enter Try.func85, Try.ntmps85
  go_wp2_with (go_at_call 32; refine hcall.mono ?_; rintro e w' ⟨rfl, hb'⟩)
  go_ret
  exact ⟨rfl, ((Below.refl _ _).alloc (Nat.le_refl _) _).trans (hb'.mono (by simp))⟩
def dotEq (x d : S24) : Bool := x.f0 == d.f0 && (x.f1 == d.f1 && x.f2 == d.f2)
def dotIn (l : List S24) (d : S24) : Bool := l.any fun x => dotEq d x
def item_Under.f (l0 : List (S26)) (l1 : List ByteArray) : Option (List (S26)) := if l0.length < lim then some (l0.filter fun x => coversL l1 x.f0) else none
set_option maxRecDepth 100000 in
theorem item_Under.calls (A0 : Option Addr) (c0 : Nat) (l0 : List (S26)) (A1 : Option Addr) (c1 : Nat) (l1 : List ByteArray) (r : List (S26)) (w : World) (hr0 : Kd.C k26 w A0 l0.length l0) (_hc0 : l0.length ≤ c0) (hr1 : Kd.C Kd.string w A1 l1.length l1) (hc1 : l1.length ≤ c1) (h : item_Under.f l0 l1 = some r) :
    Calls Try.prog 49 #[.slice A0 l0.length c0, .slice A1 l1.length c1] w fun e w' => ∃ v0_ : Value, e = .returned (v0_) ∧ Kd.R k26 26 w' w.heap.size (fun _ => True) v0_ r ∧ Below w.heap.size w w' := by
  unfold item_Under.f at h
  split at h
  case isFalse => cases h
  rename_i hl
  obtain rfl := Option.some.inj h
  clear h
  have hb0 : Below w.heap.size w (w.alloc (.cells #[.slice A1 l1.length c1] 29)) := (Below.refl _ w).alloc (Nat.le_refl _) _
  have eg : EntersB 85 := fun _ _ => enters_of Try.func85 (by kernel_rfl) rfl _ _
  have hcl := clone_item A0 c0 l0 (w.alloc (.cells #[.slice A1 l1.length c1] 29)) (Kd.C_below hr0 hb0) hl
  have HB0 := Aside0.mk hb0
  have HR1 := Aside0.mk hr1; clear hr1
  clear hr0 hl hb0
  go_enter Try.func49, Try.ntmps49
  go_wp2_with fail
  refine hcl.mono ?_
  rintro e w1 ⟨v1, rfl, ho1, hb1⟩
  have hcell : w1.cell? ⟨w.heap.size, 0, none⟩ = some (.slice A1 l1.length c1) := (hb1.cell (p := ⟨w.heap.size, 0, none⟩) (by simp)).trans (by simp)
  have hb01 := HB0.out.trans (hb1.mono (by simp))
  have hob : ∀ k, v1.ownBlock = some k → (w.alloc (.cells #[.slice A1 l1.length c1] 29)).heap.size ≤ k := fun k hk => by
    obtain ⟨_, inner, hown, _⟩ := ho1
    exact own_base hown k hk
  have hdel := deleteP_item 85 #[.pointer (some ⟨w.heap.size, 0, none⟩)] eg (fun x => !(coversL l1 x.f0)) v1 l0 _ w1 ho1 (fun W x hg => under_pred A1 c1 l1 w.heap.size W x (hg.cell hcell (fun hk => by have := hob _ hk; simp at this; omega)) (Goes_reads HR1.out hb01 hg (fun k hk => by have := hob _ hk; simp at this; omega)) hc1)
  have HOB := Aside0.mk hob
  have HB1 := Aside0.mk hb1
  clear ho1 hob hcell hb1 hcl hb01
  go_wp2_with fail
  refine hdel.mono ?_
  rintro e w2 ⟨v2, rfl, ho2, hg2⟩
  have HO2 := Aside0.mk ho2
  have HG2 := Aside0.mk hg2
  clear hdel ho2 hg2
  go_wp2
  go_ret
  refine ⟨_, rfl, ?_, ?_⟩
  · have h := Kd.R_lower HO2.out (base' := w.heap.size) (by simp)
    simpa using h
  · have h := HG2.out.below (B := w.heap.size) (w0 := w) (HB0.out.trans (HB1.out.mono (by simp))) (by have := HB1.out.size; simp at this; omega) (fun k hk => by have := HOB.out k hk; simp at this; omega)
    exact h
theorem dotEqA (d : Nat) (w : World) (x0 y0 : Int) (x1 y1 : Int) (x2 y2 : Int) :
    (Op.equalIn (d + 2) 24 (.agg #[.int .i64 x0, .int .i64 x1, .int .i64 x2]) (.agg #[.int .i64 y0, .int .i64 y1, .int .i64 y2])).run Try.prog w = .ok (x0 == y0 && (x1 == y1 && (x2 == y2))) w := by
  refine eqA_of Try.underlying24 (by kernel_rfl) ?_
  refine eqf_cons (by rfl) (by go_simp; rfl) (by go_simp; rfl) (by go_simp) ?_
  refine eqf_cons (by rfl) (by go_simp; rfl) (by go_simp; rfl) (by go_simp) ?_
  exact eqf_last (by rfl) (by go_simp; rfl) (by go_simp; rfl) (by go_simp)
attribute [local go_sem high] dotEqA
theorem rdDot_get (l : List S24) (k : Nat) (h : k < l.length) : rd_T24 l (k : Int) = l[k] := by
  simp [rd_T24, List.getD, h]
set_option maxHeartbeats 1000000 in
theorem index_dot (A0 : Option Addr) (c0 : Nat) (l : List S24) (d : S24) (w : World) (hr0 : Kd.C k24 w A0 l.length l) :
    Calls Try.prog 103 #[.slice A0 l.length c0, .agg #[.int .i64 d.f0, .int .i64 d.f1, .int .i64 d.f2]] w fun e w' => e = .returned (.int .i64 (idxP (fun x => dotEq d x) l 0)) ∧ Below w.heap.size w w' := by
  have hlen : l.length ≤ 9223372036854775807 := hr0.2.1
  have HR := Aside0.mk hr0
  have hb0 : Below w.heap.size w (w.alloc (.cells #[.int .i64 d.f0, .int .i64 d.f1, .int .i64 d.f2] 24)) := (Below.refl _ w).alloc (Nat.le_refl _) _
  have HB0 := Aside0.mk hb0
  clear hr0 hb0
  go_enter Try.func103, Try.ntmps103
  go_wp2
  go_loopg [5, 8] l.length (fun gg _ s8 wr => ∃ (kk : Nat) (q : Nat), kk ≤ l.length ∧ l.length - kk ≤ gg ∧ s8 = .int .i64 kk ∧ wr = (w.alloc (.cells #[.int .i64 d.f0, .int .i64 d.f1, .int .i64 d.f2] 24)).drewN q ∧ Aside0 (∀ x ∈ l.take kk, dotEq d x = false))
  case atStart => exact ⟨0, 0, Nat.zero_le _, by omega, rfl, rfl, ⟨by simp⟩⟩
  case round =>
    obtain ⟨kk, q, hkk, hg, rfl, rfl, AA⟩ := hrel
    by_cases hlt : kk < l.length
    · have hltz : (kk : Int) < (l.length : Int) := by omega
      obtain ⟨ad, e0, h0, h1, h2⟩ := at_T24 (Kd.C_below HR.out HB0.out) (kk : Int) (by omega) (by omega)
      subst e0
      rw [rdDot_get l kk hlt, Int.toNat_natCast] at h0 h1 h2
      have hs := Aside0.mk (split_at l kk hlt)
      have ht := Aside0.mk (List.take_succ_eq_append_getElem hlt)
      generalize l[kk] = y at h0 h1 h2 hs ht
      cases hq : dotEq d y with
      | true =>
        have hq2 := hq
        unfold dotEq at hq2
        simp only [Bool.and_eq_true, beq_iff_eq] at hq2
        obtain ⟨e1, e2, e3⟩ := hq2
        have b1 : (d.f0 == y.f0) = true := beq_iff_eq.2 e1
        have b2 : (d.f1 == y.f1) = true := beq_iff_eq.2 e2
        have b3 : (d.f2 == y.f2) = true := beq_iff_eq.2 e3
        have HQ := Aside0.mk hq
        clear e1 e2 e3 hq
        go_wp2
        try go_quiet (fail)
        try go_wp2
        go_ret
        refine ⟨?_, ?_⟩
        · have h3 := idxP_hit (fun x => dotEq d x) y (l.drop (kk + 1)) HQ.out (l.take kk) 0 AA.out
          rw [← hs.out] at h3
          have h2 : idxP (fun x => dotEq d x) l 0 = (kk : Int) := by
            rw [h3, List.length_take]
            omega
          rw [h2]
          rfl
        · exact pw_below_drewN (by first | exact HB0.out | exact pw_below_drewN HB0.out _) _
      | false =>
        have hq2 : (d.f0 == y.f0 && (d.f1 == y.f1 && (d.f2 == y.f2))) = false := hq
        have HQ := Aside0.mk hq
        clear hq
        go_wp2
        try go_quiet (fail)
        try go_wp2
        go_roundg (l.length - (kk + 1))
        case measure => omega
        case rel =>
          refine ⟨kk + 1, _, by omega, by omega, by go_num, rfl, ⟨fun x hx => ?_⟩⟩
          rw [ht.out] at hx
          rcases List.mem_append.1 hx with h | h
          · exact AA.out x h
          · rw [List.mem_singleton.1 h]; exact HQ.out
    · have hltz : ¬ (kk : Int) < (l.length : Int) := by omega
      have e : kk = l.length := by omega
      subst e
      go_wp2
      go_ret
      refine ⟨?_, by first | exact HB0.out | exact pw_below_drewN HB0.out _⟩
      have h3 := AA.out
      rw [List.take_length] at h3
      rw [idxP_miss _ l 0 h3]
      rfl
theorem contains_dot (A0 : Option Addr) (c0 : Nat) (l : List S24) (d : S24) (w : World) (hr0 : Kd.C k24 w A0 l.length l) :
    Calls Try.prog 87 #[.slice A0 l.length c0, .agg #[.int .i64 d.f0, .int .i64 d.f1, .int .i64 d.f2]] w fun e w' => e = .returned (.bool (dotIn l d)) ∧ Below w.heap.size w w' := by
  have hcall := index_dot A0 c0 l d (w.alloc (.cells #[.int .i64 d.f0, .int .i64 d.f1, .int .i64 d.f2] 24)) (Kd.C_below hr0 ((Below.refl _ _).alloc (Nat.le_refl _) _))
  have ha := idxP_any (fun x => dotEq d x) l 0 (Int.le_refl 0)
  unfold dotIn
  clear hr0
  generalize idxP (fun x => dotEq d x) l 0 = i at hcall ha
  have HA := Aside0.mk ha
  clear ha
  cases hb : l.any fun x => dotEq d x with
  | true =>
    have hi : 0 ≤ i := by have := HA.out; rw [hb] at this; simpa using this
    clear hb
    go_enter Try.func87, Try.ntmps87
    go_wp2_with (go_at_call 103; refine hcall.mono ?_; rintro e w' ⟨rfl, hb'⟩)
    go_ret
    exact ⟨rfl, ((Below.refl _ _).alloc (Nat.le_refl _) _).trans (hb'.mono (by simp))⟩
  | false =>
    have hi : ¬ 0 ≤ i := by have := HA.out; rw [hb] at this; simpa using this
    clear hb
    go_enter Try.func87, Try.ntmps87
    go_wp2_with (go_at_call 103; refine hcall.mono ?_; rintro e w' ⟨rfl, hb'⟩)
    go_ret
    exact ⟨by simp; omega, ((Below.refl _ _).alloc (Nat.le_refl _) _).trans (hb'.mono (by simp))⟩
theorem without_pred (A1 : Option Addr) (c1 : Nat) (l1 : List S24) (b : Nat) (W : World) (x : S26) (hc : W.cell? ⟨b, 0, none⟩ = some (.slice A1 l1.length c1)) (hr1 : Kd.C k24 W A1 l1.length l1) :
    Calls Try.prog 86 (#[encItem x] ++ #[.pointer (some ⟨b, 0, none⟩)]) W fun e w' => e = .returned (.bool (dotIn l1 x.f5)) ∧ Below W.heap.size W w' := by
  have hlt := World.block_lt_of_cell? W _ hc
  have hne : b ≠ W.heap.size := Nat.ne_of_lt hlt
  have hcall := contains_dot A1 c1 l1 x.f5 (W.alloc (.cells #[.string x.f0, .string x.f1, .int .i64 x.f2, .string x.f3, .int .i64 x.f4, .int .i64 x.f5.f0, .int .i64 x.f5.f1, .int .i64 x.f5.f2] 26)) (Kd.C_below hr1 ((Below.refl _ _).alloc (Nat.le_refl _) _))
  clear hr1
  show Calls Try.prog 86 #[.agg #[.string x.f0, .string x.f1, .int .i64 x.f2, .string x.f3, .int .i64 x.f4, .int .i64 x.f5.f0, .int .i64 x.f5.f1, .int .i64 x.f5.f2], .pointer (some ⟨b, 0, none⟩)] W fun e w' => e = .returned (.bool (dotIn l1 x.f5)) ∧ Below W.heap.size W w'
  generalize dotIn l1 x.f5 = r at hcall ⊢
  go_enter Try.func86, Try.ntmps86
  go_wp2_with (go_at_call 87; refine hcall.mono ?_; rintro e w' ⟨rfl, hb'⟩)
  go_ret
  exact ⟨rfl, ((Below.refl _ _).alloc (Nat.le_refl _) _).trans (hb'.mono (by simp))⟩
def item_Without.f (l0 : List (S26)) (l1 : List (S24)) : Option (List (S26)) := if l0.length < lim then some (l0.filter fun x => !dotIn l1 x.f5) else none
set_option maxRecDepth 100000 in
theorem item_Without.calls (A0 : Option Addr) (c0 : Nat) (l0 : List (S26)) (A1 : Option Addr) (c1 : Nat) (l1 : List (S24)) (r : List (S26)) (w : World) (hr0 : Kd.C k26 w A0 l0.length l0) (_hc0 : l0.length ≤ c0) (hr1 : Kd.C k24 w A1 l1.length l1) (_hc1 : l1.length ≤ c1) (h : item_Without.f l0 l1 = some r) :
    Calls Try.prog 50 #[.slice A0 l0.length c0, .slice A1 l1.length c1] w fun e w' => ∃ v0_ : Value, e = .returned (v0_) ∧ Kd.R k26 26 w' w.heap.size (fun _ => True) v0_ r ∧ Below w.heap.size w w' := by
  unfold item_Without.f at h
  split at h
  case isFalse => cases h
  rename_i hl
  obtain rfl := Option.some.inj h
  clear h
  have hb0 : Below w.heap.size w (w.alloc (.cells #[.slice A1 l1.length c1] 60)) := (Below.refl _ w).alloc (Nat.le_refl _) _
  have eg : EntersB 86 := fun _ _ => enters_of Try.func86 (by kernel_rfl) rfl _ _
  have hcl := clone_item A0 c0 l0 (w.alloc (.cells #[.slice A1 l1.length c1] 60)) (Kd.C_below hr0 hb0) hl
  have HB0 := Aside0.mk hb0
  have HR1 := Aside0.mk hr1; clear hr1
  clear hr0 hl hb0
  go_enter Try.func50, Try.ntmps50
  go_wp2_with fail
  refine hcl.mono ?_
  rintro e w1 ⟨v1, rfl, ho1, hb1⟩
  have hcell : w1.cell? ⟨w.heap.size, 0, none⟩ = some (.slice A1 l1.length c1) := (hb1.cell (p := ⟨w.heap.size, 0, none⟩) (by simp)).trans (by simp)
  have hb01 := HB0.out.trans (hb1.mono (by simp))
  have hob : ∀ k, v1.ownBlock = some k → (w.alloc (.cells #[.slice A1 l1.length c1] 60)).heap.size ≤ k := fun k hk => by
    obtain ⟨_, inner, hown, _⟩ := ho1
    exact own_base hown k hk
  have hdel := deleteP_item 86 #[.pointer (some ⟨w.heap.size, 0, none⟩)] eg (fun x => dotIn l1 x.f5) v1 l0 _ w1 ho1 (fun W x hg => without_pred A1 c1 l1 w.heap.size W x (hg.cell hcell (fun hk => by have := hob _ hk; simp at this; omega)) (Goes_reads HR1.out hb01 hg (fun k hk => by have := hob _ hk; simp at this; omega)))
  have HOB := Aside0.mk hob
  have HB1 := Aside0.mk hb1
  clear ho1 hob hcell hb1 hcl hb01
  go_wp2_with fail
  refine hdel.mono ?_
  rintro e w2 ⟨v2, rfl, ho2, hg2⟩
  have HO2 := Aside0.mk ho2
  have HG2 := Aside0.mk hg2
  clear hdel ho2 hg2
  go_wp2
  go_ret
  refine ⟨_, rfl, ?_, ?_⟩
  · have h := Kd.R_lower HO2.out (base' := w.heap.size) (by simp)
    simpa using h
  · have h := HG2.out.below (B := w.heap.size) (w0 := w) (HB0.out.trans (HB1.out.mono (by simp))) (by have := HB1.out.size; simp at this; omega) (fun k hk => by have := HOB.out k hk; simp at this; omega)
    exact h
end Go.Proofs.Ytciiodbkhilkmaa.F
