/-
  No cell of these rows narrows 'for every input' (looked for: loops, veiled, ifaces, maps, wideKeys, modest, calm, conditions, laid).
  DERIVED. THE GIVEN ROWS OF THIS SEAT. 10 by the template 'for every input the law returns true; each argument reads behind the call as it read before'; 0 by the template 'total and deterministic' (their statements: YtjejhkhofmkefaaTotals.lean).
  GIVEN WITH THE SEED: the statements are not yours to turn. If you find one false, say at which input.
  Laid BY PROGRAM, IN A SANDBOX (cutbox-rows.mjs): the forced cells as the released guide's own fill.sh prints them over the translation e99d07eb2bae5e57… (all of the seat's roots in one cut). By AI agents, Wed Nov 11 2026. No macro, syntax, notation, axiom, sorry.
-/
import Derived.Test.YtjejhkhofmkefaaChecked
import GoSem.Claim
import GoSem.ClaimJoined
import GoSem.ClaimMapViews
import Derived.JoinedTies
import Derived.KernelRfl
namespace Go.Proofs.Ytjejhkhofmkefaa
/- THE CELL 'sum', in the pinned program and in every row, IS THE sha256 OF THE DUMP (.gsa) THAT YtjejhkhofmkefaaProg.lean LOADS. Nothing in Lean hashes anything: it is a label: what it is worth is what the hold of that sum in a sandbox is worth. -/
noncomputable def Try.pinned : Pinned := { name := "ytjejhkhofmkefaa", sum := "e99d07eb2bae5e57e67ee2f1fde80720b1c882a085bbca8aa2b42c9fa47498d7", checked := Try.checked }
namespace Rows
def none {H : Type} : Left H := { results := [], args := [] }

/-- 'butterylaw11.ViewAll': WHATEVER THE INPUT: true; the input reads as it did. -/
def viewAllSpec : ChangeSpec := { name := "viewAll", fn := fun _ => fun
  | [d1, d2, d3, d4, d5] => { results := [.lit (.bool true)], args := [d1, d2, d3, d4, d5] }
  | _ => none }
def viewAllRow : OpenClaim := { program := "ytjejhkhofmkefaa", sum := "e99d07eb2bae5e57e67ee2f1fde80720b1c882a085bbca8aa2b42c9fa47498d7", func := "buttery/butterylaw11.ViewAll", spec := "viewAll", recurses := true, plainKeys := false, apart := false }
def ViewAllSaid : Prop := viewAllRow.holds Try.pinned (OpenSpec.ofChange viewAllSpec)

/-- ITS FALSE NEIGHBOUR: 'it returns false'. Refute it at one input. -/
def viewAllWrong : ChangeSpec := { name := "viewAll", fn := fun _ => fun
  | [d1, d2, d3, d4, d5] => { results := [.lit (.bool false)], args := [d1, d2, d3, d4, d5] }
  | _ => none }
def ViewAllWrongFalsely : Prop := viewAllRow.holds Try.pinned (OpenSpec.ofChange viewAllWrong)

/-- 'butterylaw09.ItemAll': WHATEVER THE INPUT: true; the input reads as it did. -/
def itemAllSpec : ChangeSpec := { name := "itemAll", fn := fun _ => fun
  | [d1, d2, d3, d4, d5] => { results := [.lit (.bool true)], args := [d1, d2, d3, d4, d5] }
  | _ => none }
def itemAllRow : OpenClaim := { program := "ytjejhkhofmkefaa", sum := "e99d07eb2bae5e57e67ee2f1fde80720b1c882a085bbca8aa2b42c9fa47498d7", func := "buttery/butterylaw09.ItemAll", spec := "itemAll", unfollowed := true, recurses := true, plainKeys := false, apart := false }
def ItemAllSaid : Prop := itemAllRow.holds Try.pinned (OpenSpec.ofChange itemAllSpec)

/-- ITS FALSE NEIGHBOUR: 'it returns false'. Refute it at one input. -/
def itemAllWrong : ChangeSpec := { name := "itemAll", fn := fun _ => fun
  | [d1, d2, d3, d4, d5] => { results := [.lit (.bool false)], args := [d1, d2, d3, d4, d5] }
  | _ => none }
def ItemAllWrongFalsely : Prop := itemAllRow.holds Try.pinned (OpenSpec.ofChange itemAllWrong)

/-- 'butterylaw12.MintNothing': WHATEVER THE INPUT: true; the input reads as it did. -/
def mintNothingSpec : ChangeSpec := { name := "mintNothing", fn := fun _ => fun
  | [d1, d2, d3, d4, d5, d6] => { results := [.lit (.bool true)], args := [d1, d2, d3, d4, d5, d6] }
  | _ => none }
def mintNothingRow : OpenClaim := { program := "ytjejhkhofmkefaa", sum := "e99d07eb2bae5e57e67ee2f1fde80720b1c882a085bbca8aa2b42c9fa47498d7", func := "buttery/butterylaw12.MintNothing", spec := "mintNothing", unfollowed := true, recurses := true, plainKeys := false, apart := false }
def MintNothingSaid : Prop := mintNothingRow.holds Try.pinned (OpenSpec.ofChange mintNothingSpec)

/-- ITS FALSE NEIGHBOUR: 'it returns false'. Refute it at one input. -/
def mintNothingWrong : ChangeSpec := { name := "mintNothing", fn := fun _ => fun
  | [d1, d2, d3, d4, d5, d6] => { results := [.lit (.bool false)], args := [d1, d2, d3, d4, d5, d6] }
  | _ => none }
def MintNothingWrongFalsely : Prop := mintNothingRow.holds Try.pinned (OpenSpec.ofChange mintNothingWrong)

/-- 'butterylaw12.MintCounts': WHATEVER THE INPUT: true; the input reads as it did. -/
def mintCountsSpec : ChangeSpec := { name := "mintCounts", fn := fun _ => fun
  | [d1, d2, d3, d4, d5, d6] => { results := [.lit (.bool true)], args := [d1, d2, d3, d4, d5, d6] }
  | _ => none }
def mintCountsRow : OpenClaim := { program := "ytjejhkhofmkefaa", sum := "e99d07eb2bae5e57e67ee2f1fde80720b1c882a085bbca8aa2b42c9fa47498d7", func := "buttery/butterylaw12.MintCounts", spec := "mintCounts", unfollowed := true, recurses := true, plainKeys := false, apart := false }
def MintCountsSaid : Prop := mintCountsRow.holds Try.pinned (OpenSpec.ofChange mintCountsSpec)

/-- ITS FALSE NEIGHBOUR: 'it returns false'. Refute it at one input. -/
def mintCountsWrong : ChangeSpec := { name := "mintCounts", fn := fun _ => fun
  | [d1, d2, d3, d4, d5, d6] => { results := [.lit (.bool false)], args := [d1, d2, d3, d4, d5, d6] }
  | _ => none }
def MintCountsWrongFalsely : Prop := mintCountsRow.holds Try.pinned (OpenSpec.ofChange mintCountsWrong)

/-- 'butterylaw12.MintDoes': WHATEVER THE INPUT: true; the input reads as it did. -/
def mintDoesSpec : ChangeSpec := { name := "mintDoes", fn := fun _ => fun
  | [d1, d2, d3, d4, d5, d6] => { results := [.lit (.bool true)], args := [d1, d2, d3, d4, d5, d6] }
  | _ => none }
def mintDoesRow : OpenClaim := { program := "ytjejhkhofmkefaa", sum := "e99d07eb2bae5e57e67ee2f1fde80720b1c882a085bbca8aa2b42c9fa47498d7", func := "buttery/butterylaw12.MintDoes", spec := "mintDoes", unfollowed := true, recurses := true, plainKeys := false, apart := false }
def MintDoesSaid : Prop := mintDoesRow.holds Try.pinned (OpenSpec.ofChange mintDoesSpec)

/-- ITS FALSE NEIGHBOUR: 'it returns false'. Refute it at one input. -/
def mintDoesWrong : ChangeSpec := { name := "mintDoes", fn := fun _ => fun
  | [d1, d2, d3, d4, d5, d6] => { results := [.lit (.bool false)], args := [d1, d2, d3, d4, d5, d6] }
  | _ => none }
def MintDoesWrongFalsely : Prop := mintDoesRow.holds Try.pinned (OpenSpec.ofChange mintDoesWrong)

/-- 'butterylaw12.MintRight': WHATEVER THE INPUT: true; the input reads as it did. -/
def mintRightSpec : ChangeSpec := { name := "mintRight", fn := fun _ => fun
  | [d1, d2, d3, d4] => { results := [.lit (.bool true)], args := [d1, d2, d3, d4] }
  | _ => none }
def mintRightRow : OpenClaim := { program := "ytjejhkhofmkefaa", sum := "e99d07eb2bae5e57e67ee2f1fde80720b1c882a085bbca8aa2b42c9fa47498d7", func := "buttery/butterylaw12.MintRight", spec := "mintRight", unfollowed := true, recurses := true, plainKeys := false, apart := false }
def MintRightSaid : Prop := mintRightRow.holds Try.pinned (OpenSpec.ofChange mintRightSpec)

/-- ITS FALSE NEIGHBOUR: 'it returns false'. Refute it at one input. -/
def mintRightWrong : ChangeSpec := { name := "mintRight", fn := fun _ => fun
  | [d1, d2, d3, d4] => { results := [.lit (.bool false)], args := [d1, d2, d3, d4] }
  | _ => none }
def MintRightWrongFalsely : Prop := mintRightRow.holds Try.pinned (OpenSpec.ofChange mintRightWrong)

/-- 'butterylaw21.CacheOldest': WHATEVER THE INPUT: true; the input reads as it did. -/
def cacheOldestSpec : ChangeSpec := { name := "cacheOldest", fn := fun _ => fun
  | [d] => { results := [.lit (.bool true)], args := [d] }
  | _ => none }
def cacheOldestRow : OpenClaim := { program := "ytjejhkhofmkefaa", sum := "e99d07eb2bae5e57e67ee2f1fde80720b1c882a085bbca8aa2b42c9fa47498d7", func := "buttery/butterylaw21.CacheOldest", spec := "cacheOldest", inPlace := ["slices.overlaps[string]"], unfollowed := true, recurses := true, plainKeys := false, apart := false }
def CacheOldestSaid : Prop := cacheOldestRow.holds Try.pinned (OpenSpec.ofChange cacheOldestSpec)

/-- ITS FALSE NEIGHBOUR: 'it returns false'. Refute it at one input. -/
def cacheOldestWrong : ChangeSpec := { name := "cacheOldest", fn := fun _ => fun
  | [d] => { results := [.lit (.bool false)], args := [d] }
  | _ => none }
def CacheOldestWrongFalsely : Prop := cacheOldestRow.holds Try.pinned (OpenSpec.ofChange cacheOldestWrong)

/-- 'butterylaw21.CacheForm': WHATEVER THE INPUT: true; the input reads as it did. -/
def cacheFormSpec : ChangeSpec := { name := "cacheForm", fn := fun _ => fun
  | [d1, d2] => { results := [.lit (.bool true)], args := [d1, d2] }
  | _ => none }
def cacheFormRow : OpenClaim := { program := "ytjejhkhofmkefaa", sum := "e99d07eb2bae5e57e67ee2f1fde80720b1c882a085bbca8aa2b42c9fa47498d7", func := "buttery/butterylaw21.CacheForm", spec := "cacheForm", inPlace := ["slices.overlaps[string]"], unfollowed := true, recurses := true, plainKeys := false, apart := false }
def CacheFormSaid : Prop := cacheFormRow.holds Try.pinned (OpenSpec.ofChange cacheFormSpec)

/-- ITS FALSE NEIGHBOUR: 'it returns false'. Refute it at one input. -/
def cacheFormWrong : ChangeSpec := { name := "cacheForm", fn := fun _ => fun
  | [d1, d2] => { results := [.lit (.bool false)], args := [d1, d2] }
  | _ => none }
def CacheFormWrongFalsely : Prop := cacheFormRow.holds Try.pinned (OpenSpec.ofChange cacheFormWrong)

/-- 'butterylaw21.CacheBound': WHATEVER THE INPUT: true; the input reads as it did. -/
def cacheBoundSpec : ChangeSpec := { name := "cacheBound", fn := fun _ => fun
  | [d1, d2] => { results := [.lit (.bool true)], args := [d1, d2] }
  | _ => none }
def cacheBoundRow : OpenClaim := { program := "ytjejhkhofmkefaa", sum := "e99d07eb2bae5e57e67ee2f1fde80720b1c882a085bbca8aa2b42c9fa47498d7", func := "buttery/butterylaw21.CacheBound", spec := "cacheBound", inPlace := ["slices.overlaps[string]"], unfollowed := true, recurses := true, plainKeys := false, apart := false }
def CacheBoundSaid : Prop := cacheBoundRow.holds Try.pinned (OpenSpec.ofChange cacheBoundSpec)

/-- ITS FALSE NEIGHBOUR: 'it returns false'. Refute it at one input. -/
def cacheBoundWrong : ChangeSpec := { name := "cacheBound", fn := fun _ => fun
  | [d1, d2] => { results := [.lit (.bool false)], args := [d1, d2] }
  | _ => none }
def CacheBoundWrongFalsely : Prop := cacheBoundRow.holds Try.pinned (OpenSpec.ofChange cacheBoundWrong)

/-- 'butterylaw21.CacheUsed': WHATEVER THE INPUT: true; the input reads as it did. -/
def cacheUsedSpec : ChangeSpec := { name := "cacheUsed", fn := fun _ => fun
  | [d1, d2, d3, d4] => { results := [.lit (.bool true)], args := [d1, d2, d3, d4] }
  | _ => none }
def cacheUsedRow : OpenClaim := { program := "ytjejhkhofmkefaa", sum := "e99d07eb2bae5e57e67ee2f1fde80720b1c882a085bbca8aa2b42c9fa47498d7", func := "buttery/butterylaw21.CacheUsed", spec := "cacheUsed", inPlace := ["slices.overlaps[string]"], unfollowed := true, recurses := true, plainKeys := false, apart := false }
def CacheUsedSaid : Prop := cacheUsedRow.holds Try.pinned (OpenSpec.ofChange cacheUsedSpec)

/-- ITS FALSE NEIGHBOUR: 'it returns false'. Refute it at one input. -/
def cacheUsedWrong : ChangeSpec := { name := "cacheUsed", fn := fun _ => fun
  | [d1, d2, d3, d4] => { results := [.lit (.bool false)], args := [d1, d2, d3, d4] }
  | _ => none }
def CacheUsedWrongFalsely : Prop := cacheUsedRow.holds Try.pinned (OpenSpec.ofChange cacheUsedWrong)

/- THE SECOND FORM. 'bulk': how many values and letters a reading holds, each counted each time it is reached (what is shared counts as often as it is met; a slice's spare places count too). A statement '..UptoSaid' is the law's where the arguments, and the package variables that the reading takes, are together of bulk at most 1048576: NARROWER than '..Said'. Prove '..Said' where nothing that the law and all that it calls make is longer than what came in: it says more and counts as full. Else prove '..UptoSaid'. A law counts once. -/
mutual
def uptoBulk {H : Type} : DataW H → Nat
  | .lit (.string bytes) => bytes.length + 1
  | .lit _ => 1
  | .nil => 1
  | .ptr d => uptoBulk d + 1
  | .slice elems spare => uptoBulkAll elems + uptoBulkAll spare + 1
  | .agg parts => uptoBulkAll parts + 1
  | .iface _ d => uptoBulk d + 1
  | .map entries => uptoBulkEntries entries + 1
  | .held _ => 1
def uptoBulkAll {H : Type} : List (DataW H) → Nat
  | [] => 0
  | d :: r => uptoBulk d + uptoBulkAll r
def uptoBulkEntries {H : Type} : List (Lit × DataW H) → Nat
  | [] => 0
  | x :: r => uptoBulkEntry x + uptoBulkEntries r
def uptoBulkEntry {H : Type} : Lit × DataW H → Nat
  | (.string bytes, d) => bytes.length + uptoBulk d + 1
  | (_, d) => uptoBulk d + 1
 end
def uptoSmall : (H : Type) → List (DataW H) → Bool := fun _ ds => decide (uptoBulkAll ds ≤ 1048576)
def OpenSpec.upto (s : _root_.Go.ChangeSpec) : _root_.Go.OpenSpec := { _root_.Go.OpenSpec.ofChange s with cond := some uptoSmall }

/-- 'butterylaw11.ViewAll', WHERE WHAT IT READS IS OF BULK AT MOST 1048576: true; the input reads as it did. -/
def viewAllUptoRow : OpenClaim := { program := "ytjejhkhofmkefaa", sum := "e99d07eb2bae5e57e67ee2f1fde80720b1c882a085bbca8aa2b42c9fa47498d7", func := "buttery/butterylaw11.ViewAll", spec := "viewAll", recurses := true, plainKeys := false, apart := false, narrowed := true }
def ViewAllUptoSaid : Prop := viewAllUptoRow.holds Try.pinned (OpenSpec.upto viewAllSpec)

/-- 'butterylaw09.ItemAll', WHERE WHAT IT READS IS OF BULK AT MOST 1048576: true; the input reads as it did. -/
def itemAllUptoRow : OpenClaim := { program := "ytjejhkhofmkefaa", sum := "e99d07eb2bae5e57e67ee2f1fde80720b1c882a085bbca8aa2b42c9fa47498d7", func := "buttery/butterylaw09.ItemAll", spec := "itemAll", unfollowed := true, recurses := true, plainKeys := false, apart := false, narrowed := true }
def ItemAllUptoSaid : Prop := itemAllUptoRow.holds Try.pinned (OpenSpec.upto itemAllSpec)

/-- 'butterylaw12.MintNothing', WHERE WHAT IT READS IS OF BULK AT MOST 1048576: true; the input reads as it did. -/
def mintNothingUptoRow : OpenClaim := { program := "ytjejhkhofmkefaa", sum := "e99d07eb2bae5e57e67ee2f1fde80720b1c882a085bbca8aa2b42c9fa47498d7", func := "buttery/butterylaw12.MintNothing", spec := "mintNothing", unfollowed := true, recurses := true, plainKeys := false, apart := false, narrowed := true }
def MintNothingUptoSaid : Prop := mintNothingUptoRow.holds Try.pinned (OpenSpec.upto mintNothingSpec)

/-- 'butterylaw12.MintCounts', WHERE WHAT IT READS IS OF BULK AT MOST 1048576: true; the input reads as it did. -/
def mintCountsUptoRow : OpenClaim := { program := "ytjejhkhofmkefaa", sum := "e99d07eb2bae5e57e67ee2f1fde80720b1c882a085bbca8aa2b42c9fa47498d7", func := "buttery/butterylaw12.MintCounts", spec := "mintCounts", unfollowed := true, recurses := true, plainKeys := false, apart := false, narrowed := true }
def MintCountsUptoSaid : Prop := mintCountsUptoRow.holds Try.pinned (OpenSpec.upto mintCountsSpec)

/-- 'butterylaw12.MintDoes', WHERE WHAT IT READS IS OF BULK AT MOST 1048576: true; the input reads as it did. -/
def mintDoesUptoRow : OpenClaim := { program := "ytjejhkhofmkefaa", sum := "e99d07eb2bae5e57e67ee2f1fde80720b1c882a085bbca8aa2b42c9fa47498d7", func := "buttery/butterylaw12.MintDoes", spec := "mintDoes", unfollowed := true, recurses := true, plainKeys := false, apart := false, narrowed := true }
def MintDoesUptoSaid : Prop := mintDoesUptoRow.holds Try.pinned (OpenSpec.upto mintDoesSpec)

/-- 'butterylaw12.MintRight', WHERE WHAT IT READS IS OF BULK AT MOST 1048576: true; the input reads as it did. -/
def mintRightUptoRow : OpenClaim := { program := "ytjejhkhofmkefaa", sum := "e99d07eb2bae5e57e67ee2f1fde80720b1c882a085bbca8aa2b42c9fa47498d7", func := "buttery/butterylaw12.MintRight", spec := "mintRight", unfollowed := true, recurses := true, plainKeys := false, apart := false, narrowed := true }
def MintRightUptoSaid : Prop := mintRightUptoRow.holds Try.pinned (OpenSpec.upto mintRightSpec)

/-- 'butterylaw21.CacheOldest', WHERE WHAT IT READS IS OF BULK AT MOST 1048576: true; the input reads as it did. -/
def cacheOldestUptoRow : OpenClaim := { program := "ytjejhkhofmkefaa", sum := "e99d07eb2bae5e57e67ee2f1fde80720b1c882a085bbca8aa2b42c9fa47498d7", func := "buttery/butterylaw21.CacheOldest", spec := "cacheOldest", inPlace := ["slices.overlaps[string]"], unfollowed := true, recurses := true, plainKeys := false, apart := false, narrowed := true }
def CacheOldestUptoSaid : Prop := cacheOldestUptoRow.holds Try.pinned (OpenSpec.upto cacheOldestSpec)

/-- 'butterylaw21.CacheForm', WHERE WHAT IT READS IS OF BULK AT MOST 1048576: true; the input reads as it did. -/
def cacheFormUptoRow : OpenClaim := { program := "ytjejhkhofmkefaa", sum := "e99d07eb2bae5e57e67ee2f1fde80720b1c882a085bbca8aa2b42c9fa47498d7", func := "buttery/butterylaw21.CacheForm", spec := "cacheForm", inPlace := ["slices.overlaps[string]"], unfollowed := true, recurses := true, plainKeys := false, apart := false, narrowed := true }
def CacheFormUptoSaid : Prop := cacheFormUptoRow.holds Try.pinned (OpenSpec.upto cacheFormSpec)

/-- 'butterylaw21.CacheBound', WHERE WHAT IT READS IS OF BULK AT MOST 1048576: true; the input reads as it did. -/
def cacheBoundUptoRow : OpenClaim := { program := "ytjejhkhofmkefaa", sum := "e99d07eb2bae5e57e67ee2f1fde80720b1c882a085bbca8aa2b42c9fa47498d7", func := "buttery/butterylaw21.CacheBound", spec := "cacheBound", inPlace := ["slices.overlaps[string]"], unfollowed := true, recurses := true, plainKeys := false, apart := false, narrowed := true }
def CacheBoundUptoSaid : Prop := cacheBoundUptoRow.holds Try.pinned (OpenSpec.upto cacheBoundSpec)

/-- 'butterylaw21.CacheUsed', WHERE WHAT IT READS IS OF BULK AT MOST 1048576: true; the input reads as it did. -/
def cacheUsedUptoRow : OpenClaim := { program := "ytjejhkhofmkefaa", sum := "e99d07eb2bae5e57e67ee2f1fde80720b1c882a085bbca8aa2b42c9fa47498d7", func := "buttery/butterylaw21.CacheUsed", spec := "cacheUsed", inPlace := ["slices.overlaps[string]"], unfollowed := true, recurses := true, plainKeys := false, apart := false, narrowed := true }
def CacheUsedUptoSaid : Prop := cacheUsedUptoRow.holds Try.pinned (OpenSpec.upto cacheUsedSpec)

end Rows
end Go.Proofs.Ytjejhkhofmkefaa
