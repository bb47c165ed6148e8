/-
  No cell of these rows narrows 'for every input' (looked for: loops, veiled, ifaces, maps, wideKeys, modest, calm, conditions, laid).
  DERIVED. THE GIVEN ROWS OF THIS SEAT. 13 by the template 'for every input the law returns true; each argument reads behind the call as it read before'; 0 by the template 'total and deterministic' (their statements: YtciiodbkhilkmaaTotals.lean).
  GIVEN WITH THE SEED: the statements are not yours to turn. If you find one false, say at which input.
  Laid BY PROGRAM, IN A SANDBOX (cutbox-rows.mjs): the forced cells as the released guide's own fill.sh prints them over the translation ccba485dc872315c… (all of the seat's roots in one cut). By AI agents, Wed Nov 11 2026. No macro, syntax, notation, axiom, sorry.
-/
import Derived.Test.YtciiodbkhilkmaaChecked
import GoSem.Claim
import GoSem.ClaimJoined
import GoSem.ClaimMapViews
import Derived.JoinedTies
import Derived.KernelRfl
namespace Go.Proofs.Ytciiodbkhilkmaa
/- THE CELL 'sum', in the pinned program and in every row, IS THE sha256 OF THE DUMP (.gsa) THAT YtciiodbkhilkmaaProg.lean LOADS. Nothing in Lean hashes anything: it is a label: what it is worth is what the hold of that sum in a sandbox is worth. -/
noncomputable def Try.pinned : Pinned := { name := "ytciiodbkhilkmaa", sum := "ccba485dc872315c8aebe06b7492fd909d7ec9321cd944e9fb79bbc4e2ebaa34", checked := Try.checked }
namespace Rows
def none {H : Type} : Left H := { results := [], args := [] }

/-- 'butterylaw11.ViewMore': WHATEVER THE INPUT: true; the input reads as it did. -/
def viewMoreSpec : ChangeSpec := { name := "viewMore", fn := fun _ => fun
  | [d1, d2, d3, d4] => { results := [.lit (.bool true)], args := [d1, d2, d3, d4] }
  | _ => none }
def viewMoreRow : OpenClaim := { program := "ytciiodbkhilkmaa", sum := "ccba485dc872315c8aebe06b7492fd909d7ec9321cd944e9fb79bbc4e2ebaa34", func := "buttery/butterylaw11.ViewMore", spec := "viewMore", recurses := true, plainKeys := false, apart := false }
def ViewMoreSaid : Prop := viewMoreRow.holds Try.pinned (OpenSpec.ofChange viewMoreSpec)

/-- ITS FALSE NEIGHBOUR: 'it returns false'. Refute it at one input. -/
def viewMoreWrong : ChangeSpec := { name := "viewMore", fn := fun _ => fun
  | [d1, d2, d3, d4] => { results := [.lit (.bool false)], args := [d1, d2, d3, d4] }
  | _ => none }
def ViewMoreWrongFalsely : Prop := viewMoreRow.holds Try.pinned (OpenSpec.ofChange viewMoreWrong)

/-- 'butterylaw11.ViewAll': WHATEVER THE INPUT: true; the input reads as it did. -/
def viewAllSpec : ChangeSpec := { name := "viewAll", fn := fun _ => fun
  | [d1, d2, d3, d4, d5] => { results := [.lit (.bool true)], args := [d1, d2, d3, d4, d5] }
  | _ => none }
def viewAllRow : OpenClaim := { program := "ytciiodbkhilkmaa", sum := "ccba485dc872315c8aebe06b7492fd909d7ec9321cd944e9fb79bbc4e2ebaa34", func := "buttery/butterylaw11.ViewAll", spec := "viewAll", recurses := true, plainKeys := false, apart := false }
def ViewAllSaid : Prop := viewAllRow.holds Try.pinned (OpenSpec.ofChange viewAllSpec)

/-- ITS FALSE NEIGHBOUR: 'it returns false'. Refute it at one input. -/
def viewAllWrong : ChangeSpec := { name := "viewAll", fn := fun _ => fun
  | [d1, d2, d3, d4, d5] => { results := [.lit (.bool false)], args := [d1, d2, d3, d4, d5] }
  | _ => none }
def ViewAllWrongFalsely : Prop := viewAllRow.holds Try.pinned (OpenSpec.ofChange viewAllWrong)

/-- 'butterylaw11.ViewFields': WHATEVER THE INPUT: true; the input reads as it did. -/
def viewFieldsSpec : ChangeSpec := { name := "viewFields", fn := fun _ => fun
  | [d1, d2, d3] => { results := [.lit (.bool true)], args := [d1, d2, d3] }
  | _ => none }
def viewFieldsRow : OpenClaim := { program := "ytciiodbkhilkmaa", sum := "ccba485dc872315c8aebe06b7492fd909d7ec9321cd944e9fb79bbc4e2ebaa34", func := "buttery/butterylaw11.ViewFields", spec := "viewFields", recurses := true, plainKeys := false, apart := false }
def ViewFieldsSaid : Prop := viewFieldsRow.holds Try.pinned (OpenSpec.ofChange viewFieldsSpec)

/-- ITS FALSE NEIGHBOUR: 'it returns false'. Refute it at one input. -/
def viewFieldsWrong : ChangeSpec := { name := "viewFields", fn := fun _ => fun
  | [d1, d2, d3] => { results := [.lit (.bool false)], args := [d1, d2, d3] }
  | _ => none }
def ViewFieldsWrongFalsely : Prop := viewFieldsRow.holds Try.pinned (OpenSpec.ofChange viewFieldsWrong)

/-- 'butterylaw08.ZoneCovers': WHATEVER THE INPUT: true; the input reads as it did. -/
def zoneCoversSpec : ChangeSpec := { name := "zoneCovers", fn := fun _ => fun
  | [d1, d2] => { results := [.lit (.bool true)], args := [d1, d2] }
  | _ => none }
def zoneCoversRow : OpenClaim := { program := "ytciiodbkhilkmaa", sum := "ccba485dc872315c8aebe06b7492fd909d7ec9321cd944e9fb79bbc4e2ebaa34", func := "buttery/butterylaw08.ZoneCovers", spec := "zoneCovers", unfollowed := true, recurses := true, plainKeys := false, apart := false }
def ZoneCoversSaid : Prop := zoneCoversRow.holds Try.pinned (OpenSpec.ofChange zoneCoversSpec)

/-- ITS FALSE NEIGHBOUR: 'it returns false'. Refute it at one input. -/
def zoneCoversWrong : ChangeSpec := { name := "zoneCovers", fn := fun _ => fun
  | [d1, d2] => { results := [.lit (.bool false)], args := [d1, d2] }
  | _ => none }
def ZoneCoversWrongFalsely : Prop := zoneCoversRow.holds Try.pinned (OpenSpec.ofChange zoneCoversWrong)

/-- 'butterylaw08.ZoneOne': WHATEVER THE INPUT: true; the input reads as it did. -/
def zoneOneSpec : ChangeSpec := { name := "zoneOne", fn := fun _ => fun
  | [d1, d2] => { results := [.lit (.bool true)], args := [d1, d2] }
  | _ => none }
def zoneOneRow : OpenClaim := { program := "ytciiodbkhilkmaa", sum := "ccba485dc872315c8aebe06b7492fd909d7ec9321cd944e9fb79bbc4e2ebaa34", func := "buttery/butterylaw08.ZoneOne", spec := "zoneOne", unfollowed := true, recurses := true, plainKeys := false, apart := false }
def ZoneOneSaid : Prop := zoneOneRow.holds Try.pinned (OpenSpec.ofChange zoneOneSpec)

/-- ITS FALSE NEIGHBOUR: 'it returns false'. Refute it at one input. -/
def zoneOneWrong : ChangeSpec := { name := "zoneOne", fn := fun _ => fun
  | [d1, d2] => { results := [.lit (.bool false)], args := [d1, d2] }
  | _ => none }
def ZoneOneWrongFalsely : Prop := zoneOneRow.holds Try.pinned (OpenSpec.ofChange zoneOneWrong)

/-- 'butterylaw09.ItemOrder': WHATEVER THE INPUT: true; the input reads as it did. -/
def itemOrderSpec : ChangeSpec := { name := "itemOrder", fn := fun _ => fun
  | [d] => { results := [.lit (.bool true)], args := [d] }
  | _ => none }
def itemOrderRow : OpenClaim := { program := "ytciiodbkhilkmaa", sum := "ccba485dc872315c8aebe06b7492fd909d7ec9321cd944e9fb79bbc4e2ebaa34", func := "buttery/butterylaw09.ItemOrder", spec := "itemOrder", unfollowed := true, recurses := true, plainKeys := false, apart := false }
def ItemOrderSaid : Prop := itemOrderRow.holds Try.pinned (OpenSpec.ofChange itemOrderSpec)

/-- ITS FALSE NEIGHBOUR: 'it returns false'. Refute it at one input. -/
def itemOrderWrong : ChangeSpec := { name := "itemOrder", fn := fun _ => fun
  | [d] => { results := [.lit (.bool false)], args := [d] }
  | _ => none }
def ItemOrderWrongFalsely : Prop := itemOrderRow.holds Try.pinned (OpenSpec.ofChange itemOrderWrong)

/-- 'butterylaw11.ViewMeans': WHATEVER THE INPUT: true; the input reads as it did. -/
def viewMeansSpec : ChangeSpec := { name := "viewMeans", fn := fun _ => fun
  | [d1, d2, d3, d4] => { results := [.lit (.bool true)], args := [d1, d2, d3, d4] }
  | _ => none }
def viewMeansRow : OpenClaim := { program := "ytciiodbkhilkmaa", sum := "ccba485dc872315c8aebe06b7492fd909d7ec9321cd944e9fb79bbc4e2ebaa34", func := "buttery/butterylaw11.ViewMeans", spec := "viewMeans", unfollowed := true, recurses := true, plainKeys := false, apart := false }
def ViewMeansSaid : Prop := viewMeansRow.holds Try.pinned (OpenSpec.ofChange viewMeansSpec)

/-- ITS FALSE NEIGHBOUR: 'it returns false'. Refute it at one input. -/
def viewMeansWrong : ChangeSpec := { name := "viewMeans", fn := fun _ => fun
  | [d1, d2, d3, d4] => { results := [.lit (.bool false)], args := [d1, d2, d3, d4] }
  | _ => none }
def ViewMeansWrongFalsely : Prop := viewMeansRow.holds Try.pinned (OpenSpec.ofChange viewMeansWrong)

/-- 'butterylaw08.ZoneLaws': WHATEVER THE INPUT: true; the input reads as it did. -/
def zoneLawsSpec : ChangeSpec := { name := "zoneLaws", fn := fun _ => fun
  | [d1, d2, d3] => { results := [.lit (.bool true)], args := [d1, d2, d3] }
  | _ => none }
def zoneLawsRow : OpenClaim := { program := "ytciiodbkhilkmaa", sum := "ccba485dc872315c8aebe06b7492fd909d7ec9321cd944e9fb79bbc4e2ebaa34", func := "buttery/butterylaw08.ZoneLaws", spec := "zoneLaws", unfollowed := true, recurses := true, plainKeys := false, apart := false }
def ZoneLawsSaid : Prop := zoneLawsRow.holds Try.pinned (OpenSpec.ofChange zoneLawsSpec)

/-- ITS FALSE NEIGHBOUR: 'it returns false'. Refute it at one input. -/
def zoneLawsWrong : ChangeSpec := { name := "zoneLaws", fn := fun _ => fun
  | [d1, d2, d3] => { results := [.lit (.bool false)], args := [d1, d2, d3] }
  | _ => none }
def ZoneLawsWrongFalsely : Prop := zoneLawsRow.holds Try.pinned (OpenSpec.ofChange zoneLawsWrong)

/-- 'butterylaw08.ZoneSelf': WHATEVER THE INPUT: true; the input reads as it did. -/
def zoneSelfSpec : ChangeSpec := { name := "zoneSelf", fn := fun _ => fun
  | [d] => { results := [.lit (.bool true)], args := [d] }
  | _ => none }
def zoneSelfRow : OpenClaim := { program := "ytciiodbkhilkmaa", sum := "ccba485dc872315c8aebe06b7492fd909d7ec9321cd944e9fb79bbc4e2ebaa34", func := "buttery/butterylaw08.ZoneSelf", spec := "zoneSelf", unfollowed := true, recurses := true, plainKeys := false, apart := false }
def ZoneSelfSaid : Prop := zoneSelfRow.holds Try.pinned (OpenSpec.ofChange zoneSelfSpec)

/-- ITS FALSE NEIGHBOUR: 'it returns false'. Refute it at one input. -/
def zoneSelfWrong : ChangeSpec := { name := "zoneSelf", fn := fun _ => fun
  | [d] => { results := [.lit (.bool false)], args := [d] }
  | _ => none }
def ZoneSelfWrongFalsely : Prop := zoneSelfRow.holds Try.pinned (OpenSpec.ofChange zoneSelfWrong)

/-- 'butterylaw08.ZoneAll': WHATEVER THE INPUT: true; the input reads as it did. -/
def zoneAllSpec : ChangeSpec := { name := "zoneAll", fn := fun _ => fun
  | [d1, d2, d3] => { results := [.lit (.bool true)], args := [d1, d2, d3] }
  | _ => none }
def zoneAllRow : OpenClaim := { program := "ytciiodbkhilkmaa", sum := "ccba485dc872315c8aebe06b7492fd909d7ec9321cd944e9fb79bbc4e2ebaa34", func := "buttery/butterylaw08.ZoneAll", spec := "zoneAll", unfollowed := true, recurses := true, plainKeys := false, apart := false }
def ZoneAllSaid : Prop := zoneAllRow.holds Try.pinned (OpenSpec.ofChange zoneAllSpec)

/-- ITS FALSE NEIGHBOUR: 'it returns false'. Refute it at one input. -/
def zoneAllWrong : ChangeSpec := { name := "zoneAll", fn := fun _ => fun
  | [d1, d2, d3] => { results := [.lit (.bool false)], args := [d1, d2, d3] }
  | _ => none }
def ZoneAllWrongFalsely : Prop := zoneAllRow.holds Try.pinned (OpenSpec.ofChange zoneAllWrong)

/-- 'butterylaw09.ItemZones': WHATEVER THE INPUT: true; the input reads as it did. -/
def itemZonesSpec : ChangeSpec := { name := "itemZones", fn := fun _ => fun
  | [d1, d2] => { results := [.lit (.bool true)], args := [d1, d2] }
  | _ => none }
def itemZonesRow : OpenClaim := { program := "ytciiodbkhilkmaa", sum := "ccba485dc872315c8aebe06b7492fd909d7ec9321cd944e9fb79bbc4e2ebaa34", func := "buttery/butterylaw09.ItemZones", spec := "itemZones", unfollowed := true, recurses := true, plainKeys := false, apart := false }
def ItemZonesSaid : Prop := itemZonesRow.holds Try.pinned (OpenSpec.ofChange itemZonesSpec)

/-- ITS FALSE NEIGHBOUR: 'it returns false'. Refute it at one input. -/
def itemZonesWrong : ChangeSpec := { name := "itemZones", fn := fun _ => fun
  | [d1, d2] => { results := [.lit (.bool false)], args := [d1, d2] }
  | _ => none }
def ItemZonesWrongFalsely : Prop := itemZonesRow.holds Try.pinned (OpenSpec.ofChange itemZonesWrong)

/-- 'butterylaw09.ItemParts': WHATEVER THE INPUT: true; the input reads as it did. -/
def itemPartsSpec : ChangeSpec := { name := "itemParts", fn := fun _ => fun
  | [d1, d2, d3] => { results := [.lit (.bool true)], args := [d1, d2, d3] }
  | _ => none }
def itemPartsRow : OpenClaim := { program := "ytciiodbkhilkmaa", sum := "ccba485dc872315c8aebe06b7492fd909d7ec9321cd944e9fb79bbc4e2ebaa34", func := "buttery/butterylaw09.ItemParts", spec := "itemParts", unfollowed := true, recurses := true, plainKeys := false, apart := false }
def ItemPartsSaid : Prop := itemPartsRow.holds Try.pinned (OpenSpec.ofChange itemPartsSpec)

/-- ITS FALSE NEIGHBOUR: 'it returns false'. Refute it at one input. -/
def itemPartsWrong : ChangeSpec := { name := "itemParts", fn := fun _ => fun
  | [d1, d2, d3] => { results := [.lit (.bool false)], args := [d1, d2, d3] }
  | _ => none }
def ItemPartsWrongFalsely : Prop := itemPartsRow.holds Try.pinned (OpenSpec.ofChange itemPartsWrong)

/-- 'butterylaw09.ItemAll': WHATEVER THE INPUT: true; the input reads as it did. -/
def itemAllSpec : ChangeSpec := { name := "itemAll", fn := fun _ => fun
  | [d1, d2, d3, d4, d5] => { results := [.lit (.bool true)], args := [d1, d2, d3, d4, d5] }
  | _ => none }
def itemAllRow : OpenClaim := { program := "ytciiodbkhilkmaa", sum := "ccba485dc872315c8aebe06b7492fd909d7ec9321cd944e9fb79bbc4e2ebaa34", func := "buttery/butterylaw09.ItemAll", spec := "itemAll", unfollowed := true, recurses := true, plainKeys := false, apart := false }
def ItemAllSaid : Prop := itemAllRow.holds Try.pinned (OpenSpec.ofChange itemAllSpec)

/-- ITS FALSE NEIGHBOUR: 'it returns false'. Refute it at one input. -/
def itemAllWrong : ChangeSpec := { name := "itemAll", fn := fun _ => fun
  | [d1, d2, d3, d4, d5] => { results := [.lit (.bool false)], args := [d1, d2, d3, d4, d5] }
  | _ => none }
def ItemAllWrongFalsely : Prop := itemAllRow.holds Try.pinned (OpenSpec.ofChange itemAllWrong)

/- THE SECOND FORM. 'bulk': how many values and letters a reading holds, each counted each time it is reached (what is shared counts as often as it is met; a slice's spare places count too). A statement '..UptoSaid' is the law's where the arguments, and the package variables that the reading takes, are together of bulk at most 1048576: NARROWER than '..Said'. Prove '..Said' where nothing that the law and all that it calls make is longer than what came in: it says more and counts as full. Else prove '..UptoSaid'. A law counts once. -/
mutual
def uptoBulk {H : Type} : DataW H → Nat
  | .lit (.string bytes) => bytes.length + 1
  | .lit _ => 1
  | .nil => 1
  | .ptr d => uptoBulk d + 1
  | .slice elems spare => uptoBulkAll elems + uptoBulkAll spare + 1
  | .agg parts => uptoBulkAll parts + 1
  | .iface _ d => uptoBulk d + 1
  | .map entries => uptoBulkEntries entries + 1
  | .held _ => 1
def uptoBulkAll {H : Type} : List (DataW H) → Nat
  | [] => 0
  | d :: r => uptoBulk d + uptoBulkAll r
def uptoBulkEntries {H : Type} : List (Lit × DataW H) → Nat
  | [] => 0
  | x :: r => uptoBulkEntry x + uptoBulkEntries r
def uptoBulkEntry {H : Type} : Lit × DataW H → Nat
  | (.string bytes, d) => bytes.length + uptoBulk d + 1
  | (_, d) => uptoBulk d + 1
 end
def uptoSmall : (H : Type) → List (DataW H) → Bool := fun _ ds => decide (uptoBulkAll ds ≤ 1048576)
def OpenSpec.upto (s : _root_.Go.ChangeSpec) : _root_.Go.OpenSpec := { _root_.Go.OpenSpec.ofChange s with cond := some uptoSmall }

/-- 'butterylaw11.ViewMore', WHERE WHAT IT READS IS OF BULK AT MOST 1048576: true; the input reads as it did. -/
def viewMoreUptoRow : OpenClaim := { program := "ytciiodbkhilkmaa", sum := "ccba485dc872315c8aebe06b7492fd909d7ec9321cd944e9fb79bbc4e2ebaa34", func := "buttery/butterylaw11.ViewMore", spec := "viewMore", recurses := true, plainKeys := false, apart := false, narrowed := true }
def ViewMoreUptoSaid : Prop := viewMoreUptoRow.holds Try.pinned (OpenSpec.upto viewMoreSpec)

/-- 'butterylaw11.ViewAll', WHERE WHAT IT READS IS OF BULK AT MOST 1048576: true; the input reads as it did. -/
def viewAllUptoRow : OpenClaim := { program := "ytciiodbkhilkmaa", sum := "ccba485dc872315c8aebe06b7492fd909d7ec9321cd944e9fb79bbc4e2ebaa34", func := "buttery/butterylaw11.ViewAll", spec := "viewAll", recurses := true, plainKeys := false, apart := false, narrowed := true }
def ViewAllUptoSaid : Prop := viewAllUptoRow.holds Try.pinned (OpenSpec.upto viewAllSpec)

/-- 'butterylaw11.ViewFields', WHERE WHAT IT READS IS OF BULK AT MOST 1048576: true; the input reads as it did. -/
def viewFieldsUptoRow : OpenClaim := { program := "ytciiodbkhilkmaa", sum := "ccba485dc872315c8aebe06b7492fd909d7ec9321cd944e9fb79bbc4e2ebaa34", func := "buttery/butterylaw11.ViewFields", spec := "viewFields", recurses := true, plainKeys := false, apart := false, narrowed := true }
def ViewFieldsUptoSaid : Prop := viewFieldsUptoRow.holds Try.pinned (OpenSpec.upto viewFieldsSpec)

/-- 'butterylaw08.ZoneCovers', WHERE WHAT IT READS IS OF BULK AT MOST 1048576: true; the input reads as it did. -/
def zoneCoversUptoRow : OpenClaim := { program := "ytciiodbkhilkmaa", sum := "ccba485dc872315c8aebe06b7492fd909d7ec9321cd944e9fb79bbc4e2ebaa34", func := "buttery/butterylaw08.ZoneCovers", spec := "zoneCovers", unfollowed := true, recurses := true, plainKeys := false, apart := false, narrowed := true }
def ZoneCoversUptoSaid : Prop := zoneCoversUptoRow.holds Try.pinned (OpenSpec.upto zoneCoversSpec)

/-- 'butterylaw08.ZoneOne', WHERE WHAT IT READS IS OF BULK AT MOST 1048576: true; the input reads as it did. -/
def zoneOneUptoRow : OpenClaim := { program := "ytciiodbkhilkmaa", sum := "ccba485dc872315c8aebe06b7492fd909d7ec9321cd944e9fb79bbc4e2ebaa34", func := "buttery/butterylaw08.ZoneOne", spec := "zoneOne", unfollowed := true, recurses := true, plainKeys := false, apart := false, narrowed := true }
def ZoneOneUptoSaid : Prop := zoneOneUptoRow.holds Try.pinned (OpenSpec.upto zoneOneSpec)

/-- 'butterylaw09.ItemOrder', WHERE WHAT IT READS IS OF BULK AT MOST 1048576: true; the input reads as it did. -/
def itemOrderUptoRow : OpenClaim := { program := "ytciiodbkhilkmaa", sum := "ccba485dc872315c8aebe06b7492fd909d7ec9321cd944e9fb79bbc4e2ebaa34", func := "buttery/butterylaw09.ItemOrder", spec := "itemOrder", unfollowed := true, recurses := true, plainKeys := false, apart := false, narrowed := true }
def ItemOrderUptoSaid : Prop := itemOrderUptoRow.holds Try.pinned (OpenSpec.upto itemOrderSpec)

/-- 'butterylaw11.ViewMeans', WHERE WHAT IT READS IS OF BULK AT MOST 1048576: true; the input reads as it did. -/
def viewMeansUptoRow : OpenClaim := { program := "ytciiodbkhilkmaa", sum := "ccba485dc872315c8aebe06b7492fd909d7ec9321cd944e9fb79bbc4e2ebaa34", func := "buttery/butterylaw11.ViewMeans", spec := "viewMeans", unfollowed := true, recurses := true, plainKeys := false, apart := false, narrowed := true }
def ViewMeansUptoSaid : Prop := viewMeansUptoRow.holds Try.pinned (OpenSpec.upto viewMeansSpec)

/-- 'butterylaw08.ZoneLaws', WHERE WHAT IT READS IS OF BULK AT MOST 1048576: true; the input reads as it did. -/
def zoneLawsUptoRow : OpenClaim := { program := "ytciiodbkhilkmaa", sum := "ccba485dc872315c8aebe06b7492fd909d7ec9321cd944e9fb79bbc4e2ebaa34", func := "buttery/butterylaw08.ZoneLaws", spec := "zoneLaws", unfollowed := true, recurses := true, plainKeys := false, apart := false, narrowed := true }
def ZoneLawsUptoSaid : Prop := zoneLawsUptoRow.holds Try.pinned (OpenSpec.upto zoneLawsSpec)

/-- 'butterylaw08.ZoneSelf', WHERE WHAT IT READS IS OF BULK AT MOST 1048576: true; the input reads as it did. -/
def zoneSelfUptoRow : OpenClaim := { program := "ytciiodbkhilkmaa", sum := "ccba485dc872315c8aebe06b7492fd909d7ec9321cd944e9fb79bbc4e2ebaa34", func := "buttery/butterylaw08.ZoneSelf", spec := "zoneSelf", unfollowed := true, recurses := true, plainKeys := false, apart := false, narrowed := true }
def ZoneSelfUptoSaid : Prop := zoneSelfUptoRow.holds Try.pinned (OpenSpec.upto zoneSelfSpec)

/-- 'butterylaw08.ZoneAll', WHERE WHAT IT READS IS OF BULK AT MOST 1048576: true; the input reads as it did. -/
def zoneAllUptoRow : OpenClaim := { program := "ytciiodbkhilkmaa", sum := "ccba485dc872315c8aebe06b7492fd909d7ec9321cd944e9fb79bbc4e2ebaa34", func := "buttery/butterylaw08.ZoneAll", spec := "zoneAll", unfollowed := true, recurses := true, plainKeys := false, apart := false, narrowed := true }
def ZoneAllUptoSaid : Prop := zoneAllUptoRow.holds Try.pinned (OpenSpec.upto zoneAllSpec)

/-- 'butterylaw09.ItemZones', WHERE WHAT IT READS IS OF BULK AT MOST 1048576: true; the input reads as it did. -/
def itemZonesUptoRow : OpenClaim := { program := "ytciiodbkhilkmaa", sum := "ccba485dc872315c8aebe06b7492fd909d7ec9321cd944e9fb79bbc4e2ebaa34", func := "buttery/butterylaw09.ItemZones", spec := "itemZones", unfollowed := true, recurses := true, plainKeys := false, apart := false, narrowed := true }
def ItemZonesUptoSaid : Prop := itemZonesUptoRow.holds Try.pinned (OpenSpec.upto itemZonesSpec)

/-- 'butterylaw09.ItemParts', WHERE WHAT IT READS IS OF BULK AT MOST 1048576: true; the input reads as it did. -/
def itemPartsUptoRow : OpenClaim := { program := "ytciiodbkhilkmaa", sum := "ccba485dc872315c8aebe06b7492fd909d7ec9321cd944e9fb79bbc4e2ebaa34", func := "buttery/butterylaw09.ItemParts", spec := "itemParts", unfollowed := true, recurses := true, plainKeys := false, apart := false, narrowed := true }
def ItemPartsUptoSaid : Prop := itemPartsUptoRow.holds Try.pinned (OpenSpec.upto itemPartsSpec)

/-- 'butterylaw09.ItemAll', WHERE WHAT IT READS IS OF BULK AT MOST 1048576: true; the input reads as it did. -/
def itemAllUptoRow : OpenClaim := { program := "ytciiodbkhilkmaa", sum := "ccba485dc872315c8aebe06b7492fd909d7ec9321cd944e9fb79bbc4e2ebaa34", func := "buttery/butterylaw09.ItemAll", spec := "itemAll", unfollowed := true, recurses := true, plainKeys := false, apart := false, narrowed := true }
def ItemAllUptoSaid : Prop := itemAllUptoRow.holds Try.pinned (OpenSpec.upto itemAllSpec)

end Rows
end Go.Proofs.Ytciiodbkhilkmaa
