/- ViewMore, part 31: PNum. -/
import Derived.Sort.Walk0
import Derived.Test.YtciiodbkhilkmaaProg
import Derived.Below
import Derived.Deep.Draws
import Derived.Deep.AppendLies
import Derived.Maps.AppendAt
import Derived.OwnWalk
import Derived.Laws.BytesArg
import Derived.Laws.MakeOwn
import Derived.Laws.OwnMore
import Derived.Deep.OwnRows
import Derived.Tactics
import Derived.Lib.ConvBytes
import Derived.Laws.Slices
import Derived.WalkKit
import Derived.KernelRfl
import Derived.RowKit3
import Derived.Deep.LoopGhost
import Derived.Deep.QuietTactic
import Derived.BigQuiet
import Derived.WideLaws
import Derived.Deep.DeepCutAuto
import Derived.Deep.CutBlock
import Derived.Deep.RegionHeld3
import Derived.Laws.Rows
import Derived.Lib.AppendStr
import Derived.ArgAppend
import Derived.Laws.IdiomCopy
import Derived.OrdersHeld
import Derived.Laws.BitsLemmas
import Derived.RowKit
import Derived.Shelf.SlGeneric
import Derived.Shelf.Sort.Plain
import Derived.Shelf.Slices.CompactS
import Derived.Shelf.Slices.In.SortNone
import Derived.Shelf.SlSortCmp.NoneTotal
import Derived.Ground.NamesProg
import Derived.Ground.SlsfProg
import Derived.Shelf.Abstract
import Derived.Lib.SliceRun
import Derived.Laws.StructEq
import Derived.Lib.Strings
import Derived.Test.YtciiodbkhilkmaaQViewMore0
import Derived.Test.YtciiodbkhilkmaaQViewMore21
import Derived.Test.YtciiodbkhilkmaaQViewMore22
import Derived.Test.YtciiodbkhilkmaaQViewMore23
import Derived.Test.YtciiodbkhilkmaaQViewMore24
import Derived.Test.YtciiodbkhilkmaaQViewMore25
import Derived.Test.YtciiodbkhilkmaaQViewMore26
import Derived.Test.YtciiodbkhilkmaaQViewMore27
import Derived.Test.YtciiodbkhilkmaaQViewMore28
import Derived.Test.YtciiodbkhilkmaaQViewMore29
import Derived.Test.YtciiodbkhilkmaaQViewMore30
namespace Go.Proofs.Ytciiodbkhilkmaa.F
set_option linter.unusedVariables false
set_option linter.unusedSimpArgs false
open Go.RowKit Go.Proofs.YtciiodbkhilkmaaW.PrintWords Go.Proofs.YtciiodbkhilkmaaW.PrintLast Go.Proofs.YtciiodbkhilkmaaW.PrintMore
theorem and_mask (x : Int) (_h0 : -9223372036854775808 ≤ x) (_h1 : x ≤ 9223372036854775807) : Go.bits .and .i64 x 4294967295 = x % 4294967296 := by
  have hm : (BitVec.ofInt 64 (4294967295 : Int)).toNat = 2 ^ 32 - 1 := by decide
  have hx : (BitVec.ofInt 64 x).toNat = (x % 18446744073709551616).toNat := by rw [BitVec.toNat_ofInt]; rfl
  show IntKind.i64.wrap ((BitVec.ofInt 64 x &&& BitVec.ofInt 64 4294967295).toNat : Int) = _
  rw [BitVec.toNat_and, hm, hx, Nat.and_two_pow_sub_one_eq_mod, IntKind.wrap_i64]
  have h2 : (2 : Nat) ^ 32 = 4294967296 := by decide
  rw [h2]
  omega
theorem or_join (h y : Int) (h0 : -2147483648 ≤ h) (h1 : h < 2147483648) (y0 : 0 ≤ y) (y1 : y < 4294967296) : Go.bits .or .i64 (h * 4294967296) y = h * 4294967296 + y := by
  have h2 : (2 : Nat) ^ 32 = 4294967296 := by decide
  have h3 : ((2 ^ 64 : Nat) : Int) = 18446744073709551616 := by decide
  have hx : (BitVec.ofInt 64 (h * 4294967296)).toNat = 2 ^ 32 * (h % 4294967296).toNat := by
    rw [BitVec.toNat_ofInt, h2, h3]; omega
  have hy : (BitVec.ofInt 64 y).toNat = y.toNat := by
    rw [BitVec.toNat_ofInt, h3]; omega
  show IntKind.i64.wrap ((BitVec.ofInt 64 (h * 4294967296) ||| BitVec.ofInt 64 y).toNat : Int) = _
  rw [BitVec.toNat_or, hx, hy, ← Nat.two_pow_add_eq_or_of_lt (by rw [h2]; omega), IntKind.wrap_i64, h2]
  omega
def I64 (x : Int) : Prop := -9223372036854775808 ≤ x ∧ x ≤ 9223372036854775807
def WfD (x : S24) : Prop := I64 x.f0 ∧ I64 x.f1 ∧ I64 x.f2
def WfI (x : S26) : Prop := I64 x.f2 ∧ I64 x.f4 ∧ I64 x.f5.f0 ∧ I64 x.f5.f1 ∧ I64 x.f5.f2
theorem wf64 {x : Int} (h : (Lit.int .i64 x).wf = true) : I64 x := by
  simp [Lit.wf, IntKind.min, IntKind.max, IntKind.bits, IntKind.signed] at h
  unfold I64
  omega
def tot (s : Int) : Int × Int := if -9223372036854775808 ≤ s ∧ s ≤ 9223372036854775807 then (s, 0) else (0, 5)
theorem wrap_in (x : Int) (h0 : -9223372036854775808 ≤ x) (h1 : x ≤ 9223372036854775807) : wrap64 x = x := by
  unfold wrap64; omega
theorem rd_nat (l : List Int) (i : Nat) (h : i < l.length) : rd l (i : Int) = l[i] := by
  simp [rd, List.getD, h]
theorem sum_take (l : List Int) (i : Nat) (h : i < l.length) : (l.take (i + 1)).sum = (l.take i).sum + l[i] := by
  rw [List.take_succ_eq_append_getElem h, List.sum_append]; simp
theorem i64_at (l : List Int) (hw : ∀ x ∈ l, I64 x) (i : Nat) (h : i < l.length) : I64 l[i] := hw _ (List.getElem_mem h)
theorem total_loop (l : List Int) (hl : l.length ≤ 1073741824) (hw : ∀ x ∈ l, I64 x) (d : Nat) :
    ∀ (k i : Nat) (hi lo : Int), i + d = l.length → d < k → hi * 4294967296 + lo = (l.take i).sum → -2147483648 * (i : Int) ≤ hi → hi ≤ 2147483648 * (i : Int) → 0 ≤ lo → lo ≤ 4294967295 * (i : Int) →
      num_Total.l0 k hi lo l (l.length : Int) (i : Int) = some (tot l.sum) := by
  induction d with
  | zero =>
    intro k i hi lo hd hk hs h1 h2 h3 h4
    obtain ⟨k, rfl⟩ : ∃ m, k = m + 1 := ⟨k - 1, by omega⟩
    have hi' : i = l.length := by omega
    have hs' : hi * 4294967296 + lo = l.sum := by rw [hs, hi', List.take_length]
    simp only [num_Total.l0]
    rw [if_neg (by omega)]
    rw [wrap_in _ (by omega) (by omega), and_mask lo (by omega) (by omega)]
    unfold tot
    by_cases ha : hi + lo / 4294967296 < -2147483648
    · rw [if_pos ha, if_neg (by omega)]
    · rw [if_neg ha]
      by_cases hb : hi + lo / 4294967296 ≥ 2147483648
      · rw [if_pos hb, if_neg (by omega)]
      · rw [if_neg hb, if_pos (by omega), wrap_in _ (by omega) (by omega), or_join _ _ (by omega) (by omega) (by omega) (by omega)]
        congr 2
        omega
  | succ d ih =>
    intro k i hi lo hd hk hs h1 h2 h3 h4
    obtain ⟨k, rfl⟩ : ∃ m, k = m + 1 := ⟨k - 1, by omega⟩
    have hlt : i < l.length := by omega
    have hx := i64_at l hw i hlt
    unfold I64 at hx
    simp only [num_Total.l0]
    rw [if_pos (by omega), if_pos (by omega), if_pos (by omega), rd_nat l i hlt, and_mask _ hx.1 hx.2]
    rw [wrap_in (hi + _) (by omega) (by omega), wrap_in (lo + _) (by omega) (by omega), wrap_in ((i : Int) + 1) (by omega) (by omega)]
    exact ih k (i + 1) _ _ (by omega) (by omega) (by rw [sum_take l i hlt, ← hs]; omega) (by omega) (by omega) (by omega) (by omega)
theorem total_is (k : Nat) (l : List Int) (hl : l.length ≤ 1073741824) (hw : ∀ x ∈ l, I64 x) (hk : l.length < k) : num_Total.f k l = some (tot l.sum) := by
  unfold num_Total.f
  rw [if_neg (by omega)]
  exact total_loop l hl hw l.length k 0 0 0 (by omega) hk (by simp) (by omega) (by omega) (by omega) (by omega)
theorem total_ev (l : List Int) (hl : l.length ≤ 1073741824) (hw : ∀ x ∈ l, I64 x) : Ev (fun k => num_Total.f k l) (tot l.sum) := ⟨l.length + 1, fun k hk => total_is k l hl hw (by omega)⟩
end Go.Proofs.Ytciiodbkhilkmaa.F
