/-
  No cell of these rows narrows 'for every input' (looked for: loops, veiled, ifaces, maps, wideKeys, modest, calm, conditions, laid).
  DERIVED. THE GIVEN ROWS OF THIS SEAT. 4 by the template 'for every input the law returns true; each argument reads behind the call as it read before'; 0 by the template 'total and deterministic' (their statements: YtiliffhopdiepaaTotals.lean).
  GIVEN WITH THE SEED: the statements are not yours to turn. If you find one false, say at which input.
  Laid BY PROGRAM, IN A SANDBOX (cutbox-rows.mjs): the forced cells as the released guide's own fill.sh prints them over the translation dc2fefd425e83d41… (all of the seat's roots in one cut). By AI agents, Wed Nov 11 2026. No macro, syntax, notation, axiom, sorry.
-/
import Derived.Test.YtiliffhopdiepaaChecked
import GoSem.Claim
import GoSem.ClaimJoined
import GoSem.ClaimMapViews
import Derived.JoinedTies
import Derived.KernelRfl
namespace Go.Proofs.Ytiliffhopdiepaa
/- THE CELL 'sum', in the pinned program and in every row, IS THE sha256 OF THE DUMP (.gsa) THAT YtiliffhopdiepaaProg.lean LOADS. Nothing in Lean hashes anything: it is a label: what it is worth is what the hold of that sum in a sandbox is worth. -/
noncomputable def Try.pinned : Pinned := { name := "ytiliffhopdiepaa", sum := "dc2fefd425e83d418de58d01a4e04d10a44adde80a56b27e68c69a183c334176", checked := Try.checked }
namespace Rows
def none {H : Type} : Left H := { results := [], args := [] }

/-- 'butterylaw21.CacheOldest': WHATEVER THE INPUT: true; the input reads as it did. -/
def cacheOldestSpec : ChangeSpec := { name := "cacheOldest", fn := fun _ => fun
  | [d] => { results := [.lit (.bool true)], args := [d] }
  | _ => none }
def cacheOldestRow : OpenClaim := { program := "ytiliffhopdiepaa", sum := "dc2fefd425e83d418de58d01a4e04d10a44adde80a56b27e68c69a183c334176", func := "buttery/butterylaw21.CacheOldest", spec := "cacheOldest", inPlace := ["slices.overlaps[string]"], unfollowed := true, recurses := true, plainKeys := false, apart := false }
def CacheOldestSaid : Prop := cacheOldestRow.holds Try.pinned (OpenSpec.ofChange cacheOldestSpec)

/-- ITS FALSE NEIGHBOUR: 'it returns false'. Refute it at one input. -/
def cacheOldestWrong : ChangeSpec := { name := "cacheOldest", fn := fun _ => fun
  | [d] => { results := [.lit (.bool false)], args := [d] }
  | _ => none }
def CacheOldestWrongFalsely : Prop := cacheOldestRow.holds Try.pinned (OpenSpec.ofChange cacheOldestWrong)

/-- 'butterylaw21.CacheForm': WHATEVER THE INPUT: true; the input reads as it did. -/
def cacheFormSpec : ChangeSpec := { name := "cacheForm", fn := fun _ => fun
  | [d1, d2] => { results := [.lit (.bool true)], args := [d1, d2] }
  | _ => none }
def cacheFormRow : OpenClaim := { program := "ytiliffhopdiepaa", sum := "dc2fefd425e83d418de58d01a4e04d10a44adde80a56b27e68c69a183c334176", func := "buttery/butterylaw21.CacheForm", spec := "cacheForm", inPlace := ["slices.overlaps[string]"], unfollowed := true, recurses := true, plainKeys := false, apart := false }
def CacheFormSaid : Prop := cacheFormRow.holds Try.pinned (OpenSpec.ofChange cacheFormSpec)

/-- ITS FALSE NEIGHBOUR: 'it returns false'. Refute it at one input. -/
def cacheFormWrong : ChangeSpec := { name := "cacheForm", fn := fun _ => fun
  | [d1, d2] => { results := [.lit (.bool false)], args := [d1, d2] }
  | _ => none }
def CacheFormWrongFalsely : Prop := cacheFormRow.holds Try.pinned (OpenSpec.ofChange cacheFormWrong)

/-- 'butterylaw21.CacheBound': WHATEVER THE INPUT: true; the input reads as it did. -/
def cacheBoundSpec : ChangeSpec := { name := "cacheBound", fn := fun _ => fun
  | [d1, d2] => { results := [.lit (.bool true)], args := [d1, d2] }
  | _ => none }
def cacheBoundRow : OpenClaim := { program := "ytiliffhopdiepaa", sum := "dc2fefd425e83d418de58d01a4e04d10a44adde80a56b27e68c69a183c334176", func := "buttery/butterylaw21.CacheBound", spec := "cacheBound", inPlace := ["slices.overlaps[string]"], unfollowed := true, recurses := true, plainKeys := false, apart := false }
def CacheBoundSaid : Prop := cacheBoundRow.holds Try.pinned (OpenSpec.ofChange cacheBoundSpec)

/-- ITS FALSE NEIGHBOUR: 'it returns false'. Refute it at one input. -/
def cacheBoundWrong : ChangeSpec := { name := "cacheBound", fn := fun _ => fun
  | [d1, d2] => { results := [.lit (.bool false)], args := [d1, d2] }
  | _ => none }
def CacheBoundWrongFalsely : Prop := cacheBoundRow.holds Try.pinned (OpenSpec.ofChange cacheBoundWrong)

/-- 'butterylaw21.CacheUsed': WHATEVER THE INPUT: true; the input reads as it did. -/
def cacheUsedSpec : ChangeSpec := { name := "cacheUsed", fn := fun _ => fun
  | [d1, d2, d3, d4] => { results := [.lit (.bool true)], args := [d1, d2, d3, d4] }
  | _ => none }
def cacheUsedRow : OpenClaim := { program := "ytiliffhopdiepaa", sum := "dc2fefd425e83d418de58d01a4e04d10a44adde80a56b27e68c69a183c334176", func := "buttery/butterylaw21.CacheUsed", spec := "cacheUsed", inPlace := ["slices.overlaps[string]"], unfollowed := true, recurses := true, plainKeys := false, apart := false }
def CacheUsedSaid : Prop := cacheUsedRow.holds Try.pinned (OpenSpec.ofChange cacheUsedSpec)

/-- ITS FALSE NEIGHBOUR: 'it returns false'. Refute it at one input. -/
def cacheUsedWrong : ChangeSpec := { name := "cacheUsed", fn := fun _ => fun
  | [d1, d2, d3, d4] => { results := [.lit (.bool false)], args := [d1, d2, d3, d4] }
  | _ => none }
def CacheUsedWrongFalsely : Prop := cacheUsedRow.holds Try.pinned (OpenSpec.ofChange cacheUsedWrong)

/- THE SECOND FORM. 'bulk': how many values and letters a reading holds, each counted each time it is reached (what is shared counts as often as it is met; a slice's spare places count too). A statement '..UptoSaid' is the law's where the arguments, and the package variables that the reading takes, are together of bulk at most 1048576: NARROWER than '..Said'. Prove '..Said' where nothing that the law and all that it calls make is longer than what came in: it says more and counts as full. Else prove '..UptoSaid'. A law counts once. -/
mutual
def uptoBulk {H : Type} : DataW H → Nat
  | .lit (.string bytes) => bytes.length + 1
  | .lit _ => 1
  | .nil => 1
  | .ptr d => uptoBulk d + 1
  | .slice elems spare => uptoBulkAll elems + uptoBulkAll spare + 1
  | .agg parts => uptoBulkAll parts + 1
  | .iface _ d => uptoBulk d + 1
  | .map entries => uptoBulkEntries entries + 1
  | .held _ => 1
def uptoBulkAll {H : Type} : List (DataW H) → Nat
  | [] => 0
  | d :: r => uptoBulk d + uptoBulkAll r
def uptoBulkEntries {H : Type} : List (Lit × DataW H) → Nat
  | [] => 0
  | x :: r => uptoBulkEntry x + uptoBulkEntries r
def uptoBulkEntry {H : Type} : Lit × DataW H → Nat
  | (.string bytes, d) => bytes.length + uptoBulk d + 1
  | (_, d) => uptoBulk d + 1
 end
def uptoSmall : (H : Type) → List (DataW H) → Bool := fun _ ds => decide (uptoBulkAll ds ≤ 1048576)
def OpenSpec.upto (s : _root_.Go.ChangeSpec) : _root_.Go.OpenSpec := { _root_.Go.OpenSpec.ofChange s with cond := some uptoSmall }

/-- 'butterylaw21.CacheOldest', WHERE WHAT IT READS IS OF BULK AT MOST 1048576: true; the input reads as it did. -/
def cacheOldestUptoRow : OpenClaim := { program := "ytiliffhopdiepaa", sum := "dc2fefd425e83d418de58d01a4e04d10a44adde80a56b27e68c69a183c334176", func := "buttery/butterylaw21.CacheOldest", spec := "cacheOldest", inPlace := ["slices.overlaps[string]"], unfollowed := true, recurses := true, plainKeys := false, apart := false, narrowed := true }
def CacheOldestUptoSaid : Prop := cacheOldestUptoRow.holds Try.pinned (OpenSpec.upto cacheOldestSpec)

/-- 'butterylaw21.CacheForm', WHERE WHAT IT READS IS OF BULK AT MOST 1048576: true; the input reads as it did. -/
def cacheFormUptoRow : OpenClaim := { program := "ytiliffhopdiepaa", sum := "dc2fefd425e83d418de58d01a4e04d10a44adde80a56b27e68c69a183c334176", func := "buttery/butterylaw21.CacheForm", spec := "cacheForm", inPlace := ["slices.overlaps[string]"], unfollowed := true, recurses := true, plainKeys := false, apart := false, narrowed := true }
def CacheFormUptoSaid : Prop := cacheFormUptoRow.holds Try.pinned (OpenSpec.upto cacheFormSpec)

/-- 'butterylaw21.CacheBound', WHERE WHAT IT READS IS OF BULK AT MOST 1048576: true; the input reads as it did. -/
def cacheBoundUptoRow : OpenClaim := { program := "ytiliffhopdiepaa", sum := "dc2fefd425e83d418de58d01a4e04d10a44adde80a56b27e68c69a183c334176", func := "buttery/butterylaw21.CacheBound", spec := "cacheBound", inPlace := ["slices.overlaps[string]"], unfollowed := true, recurses := true, plainKeys := false, apart := false, narrowed := true }
def CacheBoundUptoSaid : Prop := cacheBoundUptoRow.holds Try.pinned (OpenSpec.upto cacheBoundSpec)

/-- 'butterylaw21.CacheUsed', WHERE WHAT IT READS IS OF BULK AT MOST 1048576: true; the input reads as it did. -/
def cacheUsedUptoRow : OpenClaim := { program := "ytiliffhopdiepaa", sum := "dc2fefd425e83d418de58d01a4e04d10a44adde80a56b27e68c69a183c334176", func := "buttery/butterylaw21.CacheUsed", spec := "cacheUsed", inPlace := ["slices.overlaps[string]"], unfollowed := true, recurses := true, plainKeys := false, apart := false, narrowed := true }
def CacheUsedUptoSaid : Prop := cacheUsedUptoRow.holds Try.pinned (OpenSpec.upto cacheUsedSpec)

end Rows
end Go.Proofs.Ytiliffhopdiepaa
