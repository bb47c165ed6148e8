/-
  No cell of these rows narrows 'for every input' (looked for: loops, veiled, ifaces, maps, wideKeys, modest, calm, conditions, laid).
  DERIVED. THE GIVEN ROWS OF THIS SEAT. 5 by the template 'for every input the law returns true; each argument reads behind the call as it read before'; 0 by the template 'total and deterministic' (their statements: YtimmgdpicjmjjaaTotals.lean).
  GIVEN WITH THE SEED: the statements are not yours to turn. If you find one false, say at which input.
  Laid BY PROGRAM, IN A SANDBOX (cutbox-rows.mjs): the forced cells as the released guide's own fill.sh prints them over the translation cd43000e24b79644… (all of the seat's roots in one cut). By AI agents, Wed Nov 11 2026. No macro, syntax, notation, axiom, sorry.
-/
import Derived.Test.YtimmgdpicjmjjaaChecked
import GoSem.Claim
import GoSem.ClaimJoined
import GoSem.ClaimMapViews
import Derived.JoinedTies
import Derived.KernelRfl
namespace Go.Proofs.Ytimmgdpicjmjjaa
/- THE CELL 'sum', in the pinned program and in every row, IS THE sha256 OF THE DUMP (.gsa) THAT YtimmgdpicjmjjaaProg.lean LOADS. Nothing in Lean hashes anything: it is a label: what it is worth is what the hold of that sum in a sandbox is worth. -/
noncomputable def Try.pinned : Pinned := { name := "ytimmgdpicjmjjaa", sum := "cd43000e24b7964411200bbe7a55b1378013b121afacaa0f6466a6f6050fcaf0", checked := Try.checked }
namespace Rows
def none {H : Type} : Left H := { results := [], args := [] }

/-- 'butterylaw01.NumAdds': WHATEVER THE INPUT: true; the input reads as it did. -/
def numAddsSpec : ChangeSpec := { name := "numAdds", fn := fun _ => fun
  | [d1, d2] => { results := [.lit (.bool true)], args := [d1, d2] }
  | _ => none }
def numAddsRow : OpenClaim := { program := "ytimmgdpicjmjjaa", sum := "cd43000e24b7964411200bbe7a55b1378013b121afacaa0f6466a6f6050fcaf0", func := "buttery/butterylaw01.NumAdds", spec := "numAdds", apart := false }
def NumAddsSaid : Prop := numAddsRow.holds Try.pinned (OpenSpec.ofChange numAddsSpec)

/-- ITS FALSE NEIGHBOUR: 'it returns false'. Refute it at one input. -/
def numAddsWrong : ChangeSpec := { name := "numAdds", fn := fun _ => fun
  | [d1, d2] => { results := [.lit (.bool false)], args := [d1, d2] }
  | _ => none }
def NumAddsWrongFalsely : Prop := numAddsRow.holds Try.pinned (OpenSpec.ofChange numAddsWrong)

/-- 'butterylaw01.NumTotals': WHATEVER THE INPUT: true; the input reads as it did. -/
def numTotalsSpec : ChangeSpec := { name := "numTotals", fn := fun _ => fun
  | [d] => { results := [.lit (.bool true)], args := [d] }
  | _ => none }
def numTotalsRow : OpenClaim := { program := "ytimmgdpicjmjjaa", sum := "cd43000e24b7964411200bbe7a55b1378013b121afacaa0f6466a6f6050fcaf0", func := "buttery/butterylaw01.NumTotals", spec := "numTotals", apart := false }
def NumTotalsSaid : Prop := numTotalsRow.holds Try.pinned (OpenSpec.ofChange numTotalsSpec)

/-- ITS FALSE NEIGHBOUR: 'it returns false'. Refute it at one input. -/
def numTotalsWrong : ChangeSpec := { name := "numTotals", fn := fun _ => fun
  | [d] => { results := [.lit (.bool false)], args := [d] }
  | _ => none }
def NumTotalsWrongFalsely : Prop := numTotalsRow.holds Try.pinned (OpenSpec.ofChange numTotalsWrong)

/-- 'butterylaw01.NumTotal': WHATEVER THE INPUT: true; the input reads as it did. -/
def numTotalSpec : ChangeSpec := { name := "numTotal", fn := fun _ => fun
  | [d1, d2, d3] => { results := [.lit (.bool true)], args := [d1, d2, d3] }
  | _ => none }
def numTotalRow : OpenClaim := { program := "ytimmgdpicjmjjaa", sum := "cd43000e24b7964411200bbe7a55b1378013b121afacaa0f6466a6f6050fcaf0", func := "buttery/butterylaw01.NumTotal", spec := "numTotal", apart := false }
def NumTotalSaid : Prop := numTotalRow.holds Try.pinned (OpenSpec.ofChange numTotalSpec)

/-- ITS FALSE NEIGHBOUR: 'it returns false'. Refute it at one input. -/
def numTotalWrong : ChangeSpec := { name := "numTotal", fn := fun _ => fun
  | [d1, d2, d3] => { results := [.lit (.bool false)], args := [d1, d2, d3] }
  | _ => none }
def NumTotalWrongFalsely : Prop := numTotalRow.holds Try.pinned (OpenSpec.ofChange numTotalWrong)

/-- 'butterylaw01.NumParts': WHATEVER THE INPUT: true; the input reads as it did. -/
def numPartsSpec : ChangeSpec := { name := "numParts", fn := fun _ => fun
  | [d1, d2] => { results := [.lit (.bool true)], args := [d1, d2] }
  | _ => none }
def numPartsRow : OpenClaim := { program := "ytimmgdpicjmjjaa", sum := "cd43000e24b7964411200bbe7a55b1378013b121afacaa0f6466a6f6050fcaf0", func := "buttery/butterylaw01.NumParts", spec := "numParts", apart := false }
def NumPartsSaid : Prop := numPartsRow.holds Try.pinned (OpenSpec.ofChange numPartsSpec)

/-- ITS FALSE NEIGHBOUR: 'it returns false'. Refute it at one input. -/
def numPartsWrong : ChangeSpec := { name := "numParts", fn := fun _ => fun
  | [d1, d2] => { results := [.lit (.bool false)], args := [d1, d2] }
  | _ => none }
def NumPartsWrongFalsely : Prop := numPartsRow.holds Try.pinned (OpenSpec.ofChange numPartsWrong)

/-- 'butterylaw01.NumSigns': WHATEVER THE INPUT: true; the input reads as it did. -/
def numSignsSpec : ChangeSpec := { name := "numSigns", fn := fun _ => fun
  | [d] => { results := [.lit (.bool true)], args := [d] }
  | _ => none }
def numSignsRow : OpenClaim := { program := "ytimmgdpicjmjjaa", sum := "cd43000e24b7964411200bbe7a55b1378013b121afacaa0f6466a6f6050fcaf0", func := "buttery/butterylaw01.NumSigns", spec := "numSigns", apart := false }
def NumSignsSaid : Prop := numSignsRow.holds Try.pinned (OpenSpec.ofChange numSignsSpec)

/-- ITS FALSE NEIGHBOUR: 'it returns false'. Refute it at one input. -/
def numSignsWrong : ChangeSpec := { name := "numSigns", fn := fun _ => fun
  | [d] => { results := [.lit (.bool false)], args := [d] }
  | _ => none }
def NumSignsWrongFalsely : Prop := numSignsRow.holds Try.pinned (OpenSpec.ofChange numSignsWrong)

/- THE SECOND FORM. 'bulk': how many values and letters a reading holds, each counted each time it is reached (what is shared counts as often as it is met; a slice's spare places count too). A statement '..UptoSaid' is the law's where the arguments, and the package variables that the reading takes, are together of bulk at most 1048576: NARROWER than '..Said'. Prove '..Said' where nothing that the law and all that it calls make is longer than what came in: it says more and counts as full. Else prove '..UptoSaid'. A law counts once. -/
mutual
def uptoBulk {H : Type} : DataW H → Nat
  | .lit (.string bytes) => bytes.length + 1
  | .lit _ => 1
  | .nil => 1
  | .ptr d => uptoBulk d + 1
  | .slice elems spare => uptoBulkAll elems + uptoBulkAll spare + 1
  | .agg parts => uptoBulkAll parts + 1
  | .iface _ d => uptoBulk d + 1
  | .map entries => uptoBulkEntries entries + 1
  | .held _ => 1
def uptoBulkAll {H : Type} : List (DataW H) → Nat
  | [] => 0
  | d :: r => uptoBulk d + uptoBulkAll r
def uptoBulkEntries {H : Type} : List (Lit × DataW H) → Nat
  | [] => 0
  | x :: r => uptoBulkEntry x + uptoBulkEntries r
def uptoBulkEntry {H : Type} : Lit × DataW H → Nat
  | (.string bytes, d) => bytes.length + uptoBulk d + 1
  | (_, d) => uptoBulk d + 1
 end
def uptoSmall : (H : Type) → List (DataW H) → Bool := fun _ ds => decide (uptoBulkAll ds ≤ 1048576)
def OpenSpec.upto (s : _root_.Go.ChangeSpec) : _root_.Go.OpenSpec := { _root_.Go.OpenSpec.ofChange s with cond := some uptoSmall }

/-- 'butterylaw01.NumAdds', WHERE WHAT IT READS IS OF BULK AT MOST 1048576: true; the input reads as it did. -/
def numAddsUptoRow : OpenClaim := { program := "ytimmgdpicjmjjaa", sum := "cd43000e24b7964411200bbe7a55b1378013b121afacaa0f6466a6f6050fcaf0", func := "buttery/butterylaw01.NumAdds", spec := "numAdds", apart := false, narrowed := true }
def NumAddsUptoSaid : Prop := numAddsUptoRow.holds Try.pinned (OpenSpec.upto numAddsSpec)

/-- 'butterylaw01.NumTotals', WHERE WHAT IT READS IS OF BULK AT MOST 1048576: true; the input reads as it did. -/
def numTotalsUptoRow : OpenClaim := { program := "ytimmgdpicjmjjaa", sum := "cd43000e24b7964411200bbe7a55b1378013b121afacaa0f6466a6f6050fcaf0", func := "buttery/butterylaw01.NumTotals", spec := "numTotals", apart := false, narrowed := true }
def NumTotalsUptoSaid : Prop := numTotalsUptoRow.holds Try.pinned (OpenSpec.upto numTotalsSpec)

/-- 'butterylaw01.NumTotal', WHERE WHAT IT READS IS OF BULK AT MOST 1048576: true; the input reads as it did. -/
def numTotalUptoRow : OpenClaim := { program := "ytimmgdpicjmjjaa", sum := "cd43000e24b7964411200bbe7a55b1378013b121afacaa0f6466a6f6050fcaf0", func := "buttery/butterylaw01.NumTotal", spec := "numTotal", apart := false, narrowed := true }
def NumTotalUptoSaid : Prop := numTotalUptoRow.holds Try.pinned (OpenSpec.upto numTotalSpec)

/-- 'butterylaw01.NumParts', WHERE WHAT IT READS IS OF BULK AT MOST 1048576: true; the input reads as it did. -/
def numPartsUptoRow : OpenClaim := { program := "ytimmgdpicjmjjaa", sum := "cd43000e24b7964411200bbe7a55b1378013b121afacaa0f6466a6f6050fcaf0", func := "buttery/butterylaw01.NumParts", spec := "numParts", apart := false, narrowed := true }
def NumPartsUptoSaid : Prop := numPartsUptoRow.holds Try.pinned (OpenSpec.upto numPartsSpec)

/-- 'butterylaw01.NumSigns', WHERE WHAT IT READS IS OF BULK AT MOST 1048576: true; the input reads as it did. -/
def numSignsUptoRow : OpenClaim := { program := "ytimmgdpicjmjjaa", sum := "cd43000e24b7964411200bbe7a55b1378013b121afacaa0f6466a6f6050fcaf0", func := "buttery/butterylaw01.NumSigns", spec := "numSigns", apart := false, narrowed := true }
def NumSignsUptoSaid : Prop := numSignsUptoRow.holds Try.pinned (OpenSpec.upto numSignsSpec)

end Rows
end Go.Proofs.Ytimmgdpicjmjjaa
