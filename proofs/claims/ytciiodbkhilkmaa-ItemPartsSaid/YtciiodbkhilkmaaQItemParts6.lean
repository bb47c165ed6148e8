/- ItemParts, part 6: GCompare. -/
import Derived.Shelf.Abstract
import Derived.OrdersHeld
import Derived.Deep.RegionHeld3
import Derived.Laws.BitsLemmas
import Derived.RowKit
import Derived.Test.YtciiodbkhilkmaaProg
import Derived.WalkKit
import Derived.Below
import Derived.Deep.Draws
import Derived.Deep.AppendLies
import Derived.Maps.AppendAt
import Derived.OwnWalk
import Derived.Laws.BytesArg
import Derived.Laws.MakeOwn
import Derived.Laws.OwnMore
import Derived.Deep.OwnRows
import Derived.Tactics
import Derived.Lib.ConvBytes
import Derived.Laws.Slices
import Derived.KernelRfl
import Derived.RowKit3
import Derived.Deep.LoopGhost
import Derived.Deep.QuietTactic
import Derived.BigQuiet
import Derived.WideLaws
import Derived.Deep.DeepCutAuto
import Derived.Deep.CutBlock
import Derived.Laws.Rows
import Derived.Lib.AppendStr
import Derived.ArgAppend
import Derived.Laws.IdiomCopy
import Derived.StillTailTactics
import Derived.Sort.Grow
import Derived.Laws.StructEq
import Derived.Test.YtciiodbkhilkmaaQItemParts0
import Derived.Test.YtciiodbkhilkmaaQItemParts1
import Derived.Test.YtciiodbkhilkmaaQItemParts2
import Derived.Test.YtciiodbkhilkmaaQItemParts3
import Derived.Test.YtciiodbkhilkmaaQItemParts4
import Derived.Test.YtciiodbkhilkmaaQItemParts5
namespace Go.Proofs.Ytciiodbkhilkmaa.F
set_option linter.unusedVariables false
set_option linter.unusedSimpArgs false
open Go.RowKit Go.Sort Go.Proofs.YtciiodbkhilkmaaW.PrintWords Go.Proofs.YtciiodbkhilkmaaW.PrintLast Go.Proofs.YtciiodbkhilkmaaW.PrintMore
def orZ : List Int → Int
  | [] => 0
  | x :: l => if x = 0 then orZ l else x
theorem orZ_skip : ∀ (a l : List Int), (∀ x ∈ a, x = 0) → orZ (a ++ l) = orZ l
  | [], _, _ => rfl
  | x :: a, l, h => by
    show orZ (x :: (a ++ l)) = _
    unfold orZ
    rw [if_pos (h x (by simp))]
    have h2 := orZ_skip a l fun y hy => h y (by simp [hy])
    rw [h2]
    cases l <;> rfl
set_option maxHeartbeats 1000000 in
theorem cmp_or (A0 : Option Addr) (c0 : Nat) (l : List Int) (w : World) (hr0 : Kd.C (Kd.int .i64) w A0 l.length l) :
    Calls Try.prog 97 #[.slice A0 l.length c0] w fun e w' => e = .returned (.int .i64 (orZ l)) ∧ w = w' := by
  have hlen : l.length ≤ 9223372036854775807 := hr0.2.1
  have HR := Aside0.mk hr0
  clear hr0
  go_enter Try.func97, Try.ntmps97
  go_wp2
  go_loopg [5, 8] l.length (fun gg _ s8 wr => ∃ (kk : Nat), kk ≤ l.length ∧ l.length - kk ≤ gg ∧ s8 = .int .i64 kk ∧ w = wr ∧ Aside0 (∀ x ∈ l.take kk, x = 0))
  case atStart => exact ⟨0, Nat.zero_le _, by omega, rfl, rfl, ⟨by simp⟩⟩
  case round =>
    obtain ⟨kk, hkk, hg, rfl, rfl, AA⟩ := hrel
    by_cases hlt : kk < l.length
    · have hltz : (kk : Int) < (l.length : Int) := by omega
      obtain ⟨ad, e0, h0⟩ := Kd.at_int HR.out (kk : Int) (by omega) (by omega)
      subst e0
      rw [show rd l (kk : Int) = l[kk] by simp [rd, List.getD, hlt], Int.toNat_natCast] at h0
      have hs := Aside0.mk (split_at l kk hlt)
      have ht := Aside0.mk (List.take_succ_eq_append_getElem hlt)
      generalize l[kk] = y at h0 hs ht
      by_cases hy : y = 0
      · have hyb : (y != 0) = false := bne_eq_false_iff_eq.2 hy
        have HY := Aside0.mk hy
        clear hy
        go_wp2
        go_roundg (l.length - (kk + 1))
        case measure => omega
        case rel =>
          refine ⟨kk + 1, by omega, by omega, by go_num, rfl, ⟨fun x hx => ?_⟩⟩
          rw [ht.out] at hx
          rcases List.mem_append.1 hx with h | h
          · exact AA.out x h
          · rw [List.mem_singleton.1 h]; exact HY.out
      · have hyb : (y != 0) = true := bne_iff_ne.2 hy
        have HY := Aside0.mk hy
        clear hy
        go_wp2
        go_ret
        refine ⟨?_, rfl⟩
        rw [hs.out, orZ_skip _ _ AA.out]
        unfold orZ
        rw [if_neg HY.out]
        rfl
    · have hltz : ¬ (kk : Int) < (l.length : Int) := by omega
      have e : kk = l.length := by omega
      subst e
      go_wp2
      go_ret
      refine ⟨?_, rfl⟩
      have h3 := AA.out
      rw [List.take_length] at h3
      have h4 := orZ_skip l [] h3
      rw [List.append_nil] at h4
      rw [h4]
      rfl
def cmpI (a b : S26) : Int := orZ [cmpB a.f0 b.f0, cmpB a.f1 b.f1, cmpZ a.f2 b.f2, cmpZ a.f5.f0 b.f5.f0, cmpZ a.f5.f1 b.f5.f1, cmpZ a.f5.f2 b.f5.f2, cmpB a.f3 b.f3, cmpZ a.f4 b.f4]
theorem cmp_str' (a b : ByteArray) (w : World) : Calls Try.prog 98 #[.string a, .string b] w fun e w' => e = .returned (.int .i64 (cmpB a b)) ∧ w' = w := (cmp_str a b w).mono fun _ _ ⟨h, e⟩ => ⟨h, e.symm⟩
theorem cmp_int' (a b : Int) (w : World) : Calls Try.prog 99 #[.int .i64 a, .int .i64 b] w fun e w' => e = .returned (.int .i64 (cmpZ a b)) ∧ w' = w := (cmp_int a b w).mono fun _ _ ⟨h, e⟩ => ⟨h, e.symm⟩
theorem cmp_int64' (a b : Int) (w : World) : Calls Try.prog 100 #[.int .i64 a, .int .i64 b] w fun e w' => e = .returned (.int .i64 (cmpZ a b)) ∧ w' = w := (cmp_int64 a b w).mono fun _ _ ⟨h, e⟩ => ⟨h, e.symm⟩
theorem ints_new (W2 : World) (b : Nat) (l : List Int) (h : ∀ j (hj : j < l.length), W2.cell? ⟨b, j, none⟩ = some (.int .i64 l[j])) (hl : l.length ≤ 9223372036854775807) : Kd.C (Kd.int .i64) W2 (some ⟨b, 0, none⟩) l.length l :=
  ⟨rfl, hl, fun _ => ⟨_, rfl, fun j p hj => by
    obtain ⟨hjl, rfl⟩ := List.getElem?_eq_some_iff.1 hj
    refine ⟨[.int .i64 l[j]], rfl, rfl, fun i u hu => ?_⟩
    cases i with
    | zero =>
      simp at hu
      subst hu
      rw [Addr.add_lit, Nat.zero_add]
      have h2 := h j hjl
      simpa [show (Kd.int .i64).sz = 1 from rfl] using h2
    | succ i => simp at hu⟩⟩
theorem cell_new (W : World) (cs : Array Value) (t : TypeId) (j b : Nat) (hb : W.heap.size = b) : (W.alloc (.cells cs t)).drew.cell? ⟨b, j, none⟩ = cs[j]? := by
  subst hb
  have h : (W.alloc (.cells cs t)).drew.heap[W.heap.size]? = some (.cells cs t (0, 0)) := heap_alloc_new W _
  simp only [World.cell?, h]
  rfl
theorem region_still_tail {P : Program} {id : Nat} {Q : Exit → Act → World → Prop} {a : Act} {w : World} {l : List Oper} (n : Nat) (hm : P.follows .mixedOrders = true) (hB : Region.lexTailB .any l.toArray n = true)
    (h : wpStill P l.toArray w.drew (fun a' => wpList P l.toArray Q (l.drop n) a' w.drew) (l.take n) a) : (Code.region id l.toArray true).wp P Q a w := wp_region_still_tail n hm hB h
set_option maxHeartbeats 4000000 in
set_option maxRecDepth 100000 in
theorem compare_at (x y : S26) (W : World) : Calls Try.prog 75 #[encItem x, encItem y] W fun e w' => e = .returned (.int .i64 (cmpI x y)) ∧ ∃ q os, w' = grow (W.drewN q) os := by
  have hor := fun (l : List Int) (c0 : Nat) (A0 : Option Addr) (w : World) h => cmp_or A0 c0 l w h
  have HOR := Aside0.mk hor
  clear hor
  unfold encItem
  go_enter Try.func75, Try.ntmps75
  go_wp2
  refine region_still_tail 46 (by kernel_rfl) (by kernel_rfl) ?_
  simp only [List.take_succ_cons, List.take_zero, List.drop_succ_cons, List.drop_zero]
  repeat (first | still_step | still_call (cmp_str' _ _ _) | still_call (cmp_int' _ _ _) | still_call (cmp_int64' _ _ _))
  refine wpStill_nil ?_
  go_wp2_with fail
  refine (HOR.out [cmpB x.f0 y.f0, cmpB x.f1 y.f1, cmpZ x.f2 y.f2, cmpZ x.f5.f0 y.f5.f0, cmpZ x.f5.f1 y.f5.f1, cmpZ x.f5.f2 y.f5.f2, cmpB x.f3 y.f3, cmpZ x.f4 y.f4] 8 (some ⟨W.heap.size + 1 + 1, 0, none⟩) _ (ints_new _ _ _ (fun j hj => by
    simp only [List.length_cons, List.length_nil] at hj
    have hjj : j = 0 ∨ j = 1 ∨ j = 2 ∨ j = 3 ∨ j = 4 ∨ j = 5 ∨ j = 6 ∨ j = 7 := by omega
    rcases hjj with rfl | rfl | rfl | rfl | rfl | rfl | rfl | rfl <;> exact (cell_new _ _ _ _ _ (by simp)).trans rfl) (by simp))).mono ?_
  rintro e w' ⟨rfl, rfl⟩
  clear HOR
  go_wp2
  go_ret
  exact ⟨rfl, 1, _, by rw [alloc_eq_grow, alloc_eq_grow, alloc_eq_grow, grow_grow, grow_grow]; rfl⟩
end Go.Proofs.Ytciiodbkhilkmaa.F
