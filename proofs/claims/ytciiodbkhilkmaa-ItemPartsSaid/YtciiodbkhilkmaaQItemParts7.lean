/- ItemParts, part 7: GZoneA. -/
import Derived.Lib.Strings
import Derived.Shelf.Abstract
import Derived.OrdersHeld
import Derived.Deep.RegionHeld3
import Derived.Laws.BitsLemmas
import Derived.RowKit
import Derived.Test.YtciiodbkhilkmaaProg
import Derived.WalkKit
import Derived.Below
import Derived.Deep.Draws
import Derived.Deep.AppendLies
import Derived.Maps.AppendAt
import Derived.OwnWalk
import Derived.Laws.BytesArg
import Derived.Laws.MakeOwn
import Derived.Laws.OwnMore
import Derived.Deep.OwnRows
import Derived.Tactics
import Derived.Lib.ConvBytes
import Derived.Laws.Slices
import Derived.KernelRfl
import Derived.RowKit3
import Derived.Deep.LoopGhost
import Derived.Deep.QuietTactic
import Derived.BigQuiet
import Derived.WideLaws
import Derived.Deep.DeepCutAuto
import Derived.Deep.CutBlock
import Derived.Laws.Rows
import Derived.Lib.AppendStr
import Derived.ArgAppend
import Derived.Laws.IdiomCopy
import Derived.Laws.StructEq
import Derived.Test.YtciiodbkhilkmaaQItemParts0
import Derived.Test.YtciiodbkhilkmaaQItemParts1
import Derived.Test.YtciiodbkhilkmaaQItemParts2
import Derived.Test.YtciiodbkhilkmaaQItemParts4
namespace Go.Proofs.Ytciiodbkhilkmaa.F
set_option linter.unusedVariables false
set_option linter.unusedSimpArgs false
open Go.RowKit Go.Proofs.YtciiodbkhilkmaaW.PrintWords Go.Proofs.YtciiodbkhilkmaaW.PrintLast Go.Proofs.YtciiodbkhilkmaaW.PrintMore
def hasP (p s : ByteArray) : Bool := p.data.toList.isPrefixOf s.data.toList
def coversL (z : List ByteArray) (key : ByteArray) : Bool := z.any fun p => hasP p key
def lim : Nat := 1099511627776
theorem hasP_take (p s : ByteArray) : hasP p s = (decide (p.size ≤ s.size) && (s.extract 0 p.size).toList == p.toList) := by
  unfold hasP
  rw [show p.data.toList.isPrefixOf s.data.toList = Lib.hasPrefix s.data.toList p.data.toList from rfl, ← Lib.hasPrefix_of_take, ← Lib.size_eq, ← Lib.size_eq, Lib.extract_toList, Lib.toList_data]
  cases decide (p.size ≤ s.size) <;> simp
theorem hasPrefix_inner (s p : ByteArray) (w : World) : Calls Try.prog 93 #[.string s, .string p] w fun e w' => e = .returned (.bool (hasP p s)) ∧ w = w' := by
  rw [hasP_take]
  by_cases h : p.size ≤ s.size
  · have h1 : (p.size : Int) ≤ (s.size : Int) := by omega
    rw [decide_eq_true h, Bool.true_and]
    go_enter Try.func93, Try.ntmps93
    go_wp2
    go_ret
    exact ⟨rfl, rfl⟩
  · have h1 : ¬ (p.size : Int) ≤ (s.size : Int) := by omega
    rw [decide_eq_false h, Bool.false_and]
    go_enter Try.func93, Try.ntmps93
    go_wp2
    go_ret
    exact ⟨rfl, rfl⟩
theorem hasPrefix_calls (s p : ByteArray) (w : World) : Calls Try.prog 69 #[.string s, .string p] w fun e w' => e = .returned (.bool (hasP p s)) ∧ w = w' := by
  go_enter Try.func69, Try.ntmps69
  go_wp2_with (go_at_call 93; refine (hasPrefix_inner _ _ _).mono ?_; rintro e w' ⟨rfl, rfl⟩)
  go_ret
  exact ⟨rfl, rfl⟩
theorem covers_pred (key : ByteArray) (B : Nat) (w : World) (hB : B < w.heap.size) (hc : w.cell? ⟨B, 0, none⟩ = some (.string key)) :
    PredB 71 #[.pointer (some ⟨B, 0, none⟩)] Value.string (fun p => hasP p key) w := by
  intro W x hb
  have hc' : W.cell? ⟨B, 0, none⟩ = some (.string key) := (hb.cell (p := ⟨B, 0, none⟩) hB).trans hc
  show Calls Try.prog 71 #[.string x, .pointer (some ⟨B, 0, none⟩)] W _
  go_enter Try.func71, Try.ntmps71
  go_wp2_with (go_at_call 69; refine (hasPrefix_calls _ _ _).mono ?_; rintro e w' ⟨rfl, rfl⟩)
  go_ret
  exact ⟨rfl, Below.refl _ _⟩
def zone_Covers.f (l0 : List ByteArray) (a1 : ByteArray) : Option Bool := some (coversL l0 a1)
theorem zone_Covers.calls (A0 : Option Addr) (c0 : Nat) (l0 : List ByteArray) (a1 : ByteArray) (r : Bool) (w : World) (hr0 : Kd.C Kd.string w A0 l0.length l0) (_hc0 : l0.length ≤ c0) (h : zone_Covers.f l0 a1 = some r) :
    Calls Try.prog 32 #[.slice A0 l0.length c0, .string a1] w fun e w' => e = .returned (.bool r) ∧ Below w.heap.size w w' := by
  obtain rfl := Option.some.inj h
  have eg : EntersB 71 := fun _ _ => enters_of Try.func71 (by kernel_rfl) rfl _ _
  have hb0 : Below w.heap.size w (w.alloc (.cells #[.string a1] 9)) := (Below.refl _ w).alloc (Nat.le_refl _) _
  have hcall := containsFunc_str 71 #[.pointer (some ⟨w.heap.size, 0, none⟩)] eg A0 c0 l0 (fun p => hasP p a1) (w.alloc (.cells #[.string a1] 9)) (covers_pred a1 w.heap.size _ (by simp) (by simp)) (Kd.C_below hr0 hb0)
  clear hr0 eg
  unfold coversL
  generalize (l0.any fun p => hasP p a1) = r at hcall ⊢
  go_enter Try.func32, Try.ntmps32
  go_wp2_with (go_at_call 70; refine hcall.mono ?_; rintro e w' ⟨rfl, hb'⟩)
  go_ret
  exact ⟨rfl, hb0.trans (hb'.mono (by simp))⟩
end Go.Proofs.Ytciiodbkhilkmaa.F
