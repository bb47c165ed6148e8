/-
  No cell of these rows narrows 'for every input' (looked for: loops, veiled, ifaces, maps, wideKeys, modest, calm, conditions, laid).
  DERIVED. THE GIVEN ROWS OF THIS SEAT. 11 by the template 'for every input the law returns true; each argument reads behind the call as it read before'; 0 by the template 'total and deterministic' (their statements: YtiliffhopdiepaaGreatTotals.lean).
  GIVEN WITH THE SEED: the statements are not yours to turn. If you find one false, say at which input.
  Laid BY PROGRAM, IN A SANDBOX (cutbox-rows.mjs): the forced cells as the released guide's own fill.sh prints them over the translation 1aad86e5e3fcdeb2… (all of the seat's roots in one cut). By AI agents, Wed Nov 11 2026. No macro, syntax, notation, axiom, sorry.
-/
import Derived.Test.YtiliffhopdiepaaGreatChecked
import GoSem.Claim
import GoSem.ClaimJoined
import GoSem.ClaimMapViews
import Derived.JoinedTies
import Derived.KernelRfl
namespace Go.Proofs.YtiliffhopdiepaaGreat
/- THE CELL 'sum', in the pinned program and in every row, IS THE sha256 OF THE DUMP (.gsa) THAT YtiliffhopdiepaaGreatProg.lean LOADS. Nothing in Lean hashes anything: it is a label: what it is worth is what the hold of that sum in a sandbox is worth. -/
noncomputable def Tryz.pinned : Pinned := { name := "ytiliffhopdiepaagreat", sum := "1aad86e5e3fcdeb26f81b72227d7bad48824744e902e674e1a1fa65a471e057d", checked := Tryz.checked }
namespace Rows
def none {H : Type} : Left H := { results := [], args := [] }

/-- 'butterylaw17.MsgPuts': WHATEVER THE INPUT: true; the input reads as it did. -/
def msgPutsSpec : ChangeSpec := { name := "msgPuts", fn := fun _ => fun
  | [d] => { results := [.lit (.bool true)], args := [d] }
  | _ => none }
def msgPutsRow : OpenClaim := { program := "ytiliffhopdiepaagreat", sum := "1aad86e5e3fcdeb26f81b72227d7bad48824744e902e674e1a1fa65a471e057d", func := "buttery/butterylaw17.MsgPuts", spec := "msgPuts", unfollowed := true, recurses := true, plainKeys := false, apart := false }
def MsgPutsSaid : Prop := msgPutsRow.holds Tryz.pinned (OpenSpec.ofChange msgPutsSpec)

/-- ITS FALSE NEIGHBOUR: 'it returns false'. Refute it at one input. -/
def msgPutsWrong : ChangeSpec := { name := "msgPuts", fn := fun _ => fun
  | [d] => { results := [.lit (.bool false)], args := [d] }
  | _ => none }
def MsgPutsWrongFalsely : Prop := msgPutsRow.holds Tryz.pinned (OpenSpec.ofChange msgPutsWrong)

/-- 'butterylaw17.MsgBack': WHATEVER THE INPUT: true; the input reads as it did. -/
def msgBackSpec : ChangeSpec := { name := "msgBack", fn := fun _ => fun
  | [d] => { results := [.lit (.bool true)], args := [d] }
  | _ => none }
def msgBackRow : OpenClaim := { program := "ytiliffhopdiepaagreat", sum := "1aad86e5e3fcdeb26f81b72227d7bad48824744e902e674e1a1fa65a471e057d", func := "buttery/butterylaw17.MsgBack", spec := "msgBack", unfollowed := true, recurses := true, plainKeys := false, apart := false }
def MsgBackSaid : Prop := msgBackRow.holds Tryz.pinned (OpenSpec.ofChange msgBackSpec)

/-- ITS FALSE NEIGHBOUR: 'it returns false'. Refute it at one input. -/
def msgBackWrong : ChangeSpec := { name := "msgBack", fn := fun _ => fun
  | [d] => { results := [.lit (.bool false)], args := [d] }
  | _ => none }
def MsgBackWrongFalsely : Prop := msgBackRow.holds Tryz.pinned (OpenSpec.ofChange msgBackWrong)

/-- 'butterylaw17.MsgReads': WHATEVER THE INPUT: true; the input reads as it did. -/
def msgReadsSpec : ChangeSpec := { name := "msgReads", fn := fun _ => fun
  | [d] => { results := [.lit (.bool true)], args := [d] }
  | _ => none }
def msgReadsRow : OpenClaim := { program := "ytiliffhopdiepaagreat", sum := "1aad86e5e3fcdeb26f81b72227d7bad48824744e902e674e1a1fa65a471e057d", func := "buttery/butterylaw17.MsgReads", spec := "msgReads", unfollowed := true, recurses := true, plainKeys := false, apart := false }
def MsgReadsSaid : Prop := msgReadsRow.holds Tryz.pinned (OpenSpec.ofChange msgReadsSpec)

/-- ITS FALSE NEIGHBOUR: 'it returns false'. Refute it at one input. -/
def msgReadsWrong : ChangeSpec := { name := "msgReads", fn := fun _ => fun
  | [d] => { results := [.lit (.bool false)], args := [d] }
  | _ => none }
def MsgReadsWrongFalsely : Prop := msgReadsRow.holds Tryz.pinned (OpenSpec.ofChange msgReadsWrong)

/-- 'butterylaw17.MsgApart': WHATEVER THE INPUT: true; the input reads as it did. -/
def msgApartSpec : ChangeSpec := { name := "msgApart", fn := fun _ => fun
  | [d1, d2] => { results := [.lit (.bool true)], args := [d1, d2] }
  | _ => none }
def msgApartRow : OpenClaim := { program := "ytiliffhopdiepaagreat", sum := "1aad86e5e3fcdeb26f81b72227d7bad48824744e902e674e1a1fa65a471e057d", func := "buttery/butterylaw17.MsgApart", spec := "msgApart", unfollowed := true, recurses := true, plainKeys := false, apart := false }
def MsgApartSaid : Prop := msgApartRow.holds Tryz.pinned (OpenSpec.ofChange msgApartSpec)

/-- ITS FALSE NEIGHBOUR: 'it returns false'. Refute it at one input. -/
def msgApartWrong : ChangeSpec := { name := "msgApart", fn := fun _ => fun
  | [d1, d2] => { results := [.lit (.bool false)], args := [d1, d2] }
  | _ => none }
def MsgApartWrongFalsely : Prop := msgApartRow.holds Tryz.pinned (OpenSpec.ofChange msgApartWrong)

/-- 'butterylaw17.MsgPrivate': WHATEVER THE INPUT: true; the input reads as it did. -/
def msgPrivateSpec : ChangeSpec := { name := "msgPrivate", fn := fun _ => fun
  | [d] => { results := [.lit (.bool true)], args := [d] }
  | _ => none }
def msgPrivateRow : OpenClaim := { program := "ytiliffhopdiepaagreat", sum := "1aad86e5e3fcdeb26f81b72227d7bad48824744e902e674e1a1fa65a471e057d", func := "buttery/butterylaw17.MsgPrivate", spec := "msgPrivate", unfollowed := true, recurses := true, plainKeys := false, apart := false }
def MsgPrivateSaid : Prop := msgPrivateRow.holds Tryz.pinned (OpenSpec.ofChange msgPrivateSpec)

/-- ITS FALSE NEIGHBOUR: 'it returns false'. Refute it at one input. -/
def msgPrivateWrong : ChangeSpec := { name := "msgPrivate", fn := fun _ => fun
  | [d] => { results := [.lit (.bool false)], args := [d] }
  | _ => none }
def MsgPrivateWrongFalsely : Prop := msgPrivateRow.holds Tryz.pinned (OpenSpec.ofChange msgPrivateWrong)

/-- 'butterylaw19.CoreFolds': WHATEVER THE INPUT: true; the input reads as it did. -/
def coreFoldsSpec : ChangeSpec := { name := "coreFolds", fn := fun _ => fun
  | [d1, d2, d3] => { results := [.lit (.bool true)], args := [d1, d2, d3] }
  | _ => none }
def coreFoldsRow : OpenClaim := { program := "ytiliffhopdiepaagreat", sum := "1aad86e5e3fcdeb26f81b72227d7bad48824744e902e674e1a1fa65a471e057d", func := "buttery/butterylaw19.CoreFolds", spec := "coreFolds", unfollowed := true, recurses := true, plainKeys := false, apart := false }
def CoreFoldsSaid : Prop := coreFoldsRow.holds Tryz.pinned (OpenSpec.ofChange coreFoldsSpec)

/-- ITS FALSE NEIGHBOUR: 'it returns false'. Refute it at one input. -/
def coreFoldsWrong : ChangeSpec := { name := "coreFolds", fn := fun _ => fun
  | [d1, d2, d3] => { results := [.lit (.bool false)], args := [d1, d2, d3] }
  | _ => none }
def CoreFoldsWrongFalsely : Prop := coreFoldsRow.holds Tryz.pinned (OpenSpec.ofChange coreFoldsWrong)

/-- 'butterylaw19.CoreAgain': WHATEVER THE INPUT: true; the input reads as it did. -/
def coreAgainSpec : ChangeSpec := { name := "coreAgain", fn := fun _ => fun
  | [d1, d2, d3, d4] => { results := [.lit (.bool true)], args := [d1, d2, d3, d4] }
  | _ => none }
def coreAgainRow : OpenClaim := { program := "ytiliffhopdiepaagreat", sum := "1aad86e5e3fcdeb26f81b72227d7bad48824744e902e674e1a1fa65a471e057d", func := "buttery/butterylaw19.CoreAgain", spec := "coreAgain", unfollowed := true, recurses := true, plainKeys := false, apart := false }
def CoreAgainSaid : Prop := coreAgainRow.holds Tryz.pinned (OpenSpec.ofChange coreAgainSpec)

/-- ITS FALSE NEIGHBOUR: 'it returns false'. Refute it at one input. -/
def coreAgainWrong : ChangeSpec := { name := "coreAgain", fn := fun _ => fun
  | [d1, d2, d3, d4] => { results := [.lit (.bool false)], args := [d1, d2, d3, d4] }
  | _ => none }
def CoreAgainWrongFalsely : Prop := coreAgainRow.holds Tryz.pinned (OpenSpec.ofChange coreAgainWrong)

/-- 'butterylaw19.CoreSound': WHATEVER THE INPUT: true; the input reads as it did. -/
def coreSoundSpec : ChangeSpec := { name := "coreSound", fn := fun _ => fun
  | [d1, d2, d3] => { results := [.lit (.bool true)], args := [d1, d2, d3] }
  | _ => none }
def coreSoundRow : OpenClaim := { program := "ytiliffhopdiepaagreat", sum := "1aad86e5e3fcdeb26f81b72227d7bad48824744e902e674e1a1fa65a471e057d", func := "buttery/butterylaw19.CoreSound", spec := "coreSound", unfollowed := true, recurses := true, plainKeys := false, apart := false }
def CoreSoundSaid : Prop := coreSoundRow.holds Tryz.pinned (OpenSpec.ofChange coreSoundSpec)

/-- ITS FALSE NEIGHBOUR: 'it returns false'. Refute it at one input. -/
def coreSoundWrong : ChangeSpec := { name := "coreSound", fn := fun _ => fun
  | [d1, d2, d3] => { results := [.lit (.bool false)], args := [d1, d2, d3] }
  | _ => none }
def CoreSoundWrongFalsely : Prop := coreSoundRow.holds Tryz.pinned (OpenSpec.ofChange coreSoundWrong)

/-- 'butterylaw19.CorePrivate': WHATEVER THE INPUT: true; the input reads as it did. -/
def corePrivateSpec : ChangeSpec := { name := "corePrivate", fn := fun _ => fun
  | [d1, d2, d3, d4, d5] => { results := [.lit (.bool true)], args := [d1, d2, d3, d4, d5] }
  | _ => none }
def corePrivateRow : OpenClaim := { program := "ytiliffhopdiepaagreat", sum := "1aad86e5e3fcdeb26f81b72227d7bad48824744e902e674e1a1fa65a471e057d", func := "buttery/butterylaw19.CorePrivate", spec := "corePrivate", unfollowed := true, recurses := true, plainKeys := false, apart := false }
def CorePrivateSaid : Prop := corePrivateRow.holds Tryz.pinned (OpenSpec.ofChange corePrivateSpec)

/-- ITS FALSE NEIGHBOUR: 'it returns false'. Refute it at one input. -/
def corePrivateWrong : ChangeSpec := { name := "corePrivate", fn := fun _ => fun
  | [d1, d2, d3, d4, d5] => { results := [.lit (.bool false)], args := [d1, d2, d3, d4, d5] }
  | _ => none }
def CorePrivateWrongFalsely : Prop := corePrivateRow.holds Tryz.pinned (OpenSpec.ofChange corePrivateWrong)

/-- 'butterylaw19.CoreTwo': WHATEVER THE INPUT: true; the input reads as it did. -/
def coreTwoSpec : ChangeSpec := { name := "coreTwo", fn := fun _ => fun
  | [d1, d2] => { results := [.lit (.bool true)], args := [d1, d2] }
  | _ => none }
def coreTwoRow : OpenClaim := { program := "ytiliffhopdiepaagreat", sum := "1aad86e5e3fcdeb26f81b72227d7bad48824744e902e674e1a1fa65a471e057d", func := "buttery/butterylaw19.CoreTwo", spec := "coreTwo", unfollowed := true, recurses := true, plainKeys := false, apart := false }
def CoreTwoSaid : Prop := coreTwoRow.holds Tryz.pinned (OpenSpec.ofChange coreTwoSpec)

/-- ITS FALSE NEIGHBOUR: 'it returns false'. Refute it at one input. -/
def coreTwoWrong : ChangeSpec := { name := "coreTwo", fn := fun _ => fun
  | [d1, d2] => { results := [.lit (.bool false)], args := [d1, d2] }
  | _ => none }
def CoreTwoWrongFalsely : Prop := coreTwoRow.holds Tryz.pinned (OpenSpec.ofChange coreTwoWrong)

/-- 'butterylaw19.CoreAnswers': WHATEVER THE INPUT: true; the input reads as it did. -/
def coreAnswersSpec : ChangeSpec := { name := "coreAnswers", fn := fun _ => fun
  | [d1, d2, d3, d4, d5] => { results := [.lit (.bool true)], args := [d1, d2, d3, d4, d5] }
  | _ => none }
def coreAnswersRow : OpenClaim := { program := "ytiliffhopdiepaagreat", sum := "1aad86e5e3fcdeb26f81b72227d7bad48824744e902e674e1a1fa65a471e057d", func := "buttery/butterylaw19.CoreAnswers", spec := "coreAnswers", unfollowed := true, recurses := true, plainKeys := false, apart := false }
def CoreAnswersSaid : Prop := coreAnswersRow.holds Tryz.pinned (OpenSpec.ofChange coreAnswersSpec)

/-- ITS FALSE NEIGHBOUR: 'it returns false'. Refute it at one input. -/
def coreAnswersWrong : ChangeSpec := { name := "coreAnswers", fn := fun _ => fun
  | [d1, d2, d3, d4, d5] => { results := [.lit (.bool false)], args := [d1, d2, d3, d4, d5] }
  | _ => none }
def CoreAnswersWrongFalsely : Prop := coreAnswersRow.holds Tryz.pinned (OpenSpec.ofChange coreAnswersWrong)

/- THE SECOND FORM. 'bulk': how many values and letters a reading holds, each counted each time it is reached (what is shared counts as often as it is met; a slice's spare places count too). A statement '..UptoSaid' is the law's where the arguments, and the package variables that the reading takes, are together of bulk at most 1048576: NARROWER than '..Said'. Prove '..Said' where nothing that the law and all that it calls make is longer than what came in: it says more and counts as full. Else prove '..UptoSaid'. A law counts once. -/
mutual
def uptoBulk {H : Type} : DataW H → Nat
  | .lit (.string bytes) => bytes.length + 1
  | .lit _ => 1
  | .nil => 1
  | .ptr d => uptoBulk d + 1
  | .slice elems spare => uptoBulkAll elems + uptoBulkAll spare + 1
  | .agg parts => uptoBulkAll parts + 1
  | .iface _ d => uptoBulk d + 1
  | .map entries => uptoBulkEntries entries + 1
  | .held _ => 1
def uptoBulkAll {H : Type} : List (DataW H) → Nat
  | [] => 0
  | d :: r => uptoBulk d + uptoBulkAll r
def uptoBulkEntries {H : Type} : List (Lit × DataW H) → Nat
  | [] => 0
  | x :: r => uptoBulkEntry x + uptoBulkEntries r
def uptoBulkEntry {H : Type} : Lit × DataW H → Nat
  | (.string bytes, d) => bytes.length + uptoBulk d + 1
  | (_, d) => uptoBulk d + 1
 end
def uptoSmall : (H : Type) → List (DataW H) → Bool := fun _ ds => decide (uptoBulkAll ds ≤ 1048576)
def OpenSpec.upto (s : _root_.Go.ChangeSpec) : _root_.Go.OpenSpec := { _root_.Go.OpenSpec.ofChange s with cond := some uptoSmall }

/-- 'butterylaw17.MsgPuts', WHERE WHAT IT READS IS OF BULK AT MOST 1048576: true; the input reads as it did. -/
def msgPutsUptoRow : OpenClaim := { program := "ytiliffhopdiepaagreat", sum := "1aad86e5e3fcdeb26f81b72227d7bad48824744e902e674e1a1fa65a471e057d", func := "buttery/butterylaw17.MsgPuts", spec := "msgPuts", unfollowed := true, recurses := true, plainKeys := false, apart := false, narrowed := true }
def MsgPutsUptoSaid : Prop := msgPutsUptoRow.holds Tryz.pinned (OpenSpec.upto msgPutsSpec)

/-- 'butterylaw17.MsgBack', WHERE WHAT IT READS IS OF BULK AT MOST 1048576: true; the input reads as it did. -/
def msgBackUptoRow : OpenClaim := { program := "ytiliffhopdiepaagreat", sum := "1aad86e5e3fcdeb26f81b72227d7bad48824744e902e674e1a1fa65a471e057d", func := "buttery/butterylaw17.MsgBack", spec := "msgBack", unfollowed := true, recurses := true, plainKeys := false, apart := false, narrowed := true }
def MsgBackUptoSaid : Prop := msgBackUptoRow.holds Tryz.pinned (OpenSpec.upto msgBackSpec)

/-- 'butterylaw17.MsgReads', WHERE WHAT IT READS IS OF BULK AT MOST 1048576: true; the input reads as it did. -/
def msgReadsUptoRow : OpenClaim := { program := "ytiliffhopdiepaagreat", sum := "1aad86e5e3fcdeb26f81b72227d7bad48824744e902e674e1a1fa65a471e057d", func := "buttery/butterylaw17.MsgReads", spec := "msgReads", unfollowed := true, recurses := true, plainKeys := false, apart := false, narrowed := true }
def MsgReadsUptoSaid : Prop := msgReadsUptoRow.holds Tryz.pinned (OpenSpec.upto msgReadsSpec)

/-- 'butterylaw17.MsgApart', WHERE WHAT IT READS IS OF BULK AT MOST 1048576: true; the input reads as it did. -/
def msgApartUptoRow : OpenClaim := { program := "ytiliffhopdiepaagreat", sum := "1aad86e5e3fcdeb26f81b72227d7bad48824744e902e674e1a1fa65a471e057d", func := "buttery/butterylaw17.MsgApart", spec := "msgApart", unfollowed := true, recurses := true, plainKeys := false, apart := false, narrowed := true }
def MsgApartUptoSaid : Prop := msgApartUptoRow.holds Tryz.pinned (OpenSpec.upto msgApartSpec)

/-- 'butterylaw17.MsgPrivate', WHERE WHAT IT READS IS OF BULK AT MOST 1048576: true; the input reads as it did. -/
def msgPrivateUptoRow : OpenClaim := { program := "ytiliffhopdiepaagreat", sum := "1aad86e5e3fcdeb26f81b72227d7bad48824744e902e674e1a1fa65a471e057d", func := "buttery/butterylaw17.MsgPrivate", spec := "msgPrivate", unfollowed := true, recurses := true, plainKeys := false, apart := false, narrowed := true }
def MsgPrivateUptoSaid : Prop := msgPrivateUptoRow.holds Tryz.pinned (OpenSpec.upto msgPrivateSpec)

/-- 'butterylaw19.CoreFolds', WHERE WHAT IT READS IS OF BULK AT MOST 1048576: true; the input reads as it did. -/
def coreFoldsUptoRow : OpenClaim := { program := "ytiliffhopdiepaagreat", sum := "1aad86e5e3fcdeb26f81b72227d7bad48824744e902e674e1a1fa65a471e057d", func := "buttery/butterylaw19.CoreFolds", spec := "coreFolds", unfollowed := true, recurses := true, plainKeys := false, apart := false, narrowed := true }
def CoreFoldsUptoSaid : Prop := coreFoldsUptoRow.holds Tryz.pinned (OpenSpec.upto coreFoldsSpec)

/-- 'butterylaw19.CoreAgain', WHERE WHAT IT READS IS OF BULK AT MOST 1048576: true; the input reads as it did. -/
def coreAgainUptoRow : OpenClaim := { program := "ytiliffhopdiepaagreat", sum := "1aad86e5e3fcdeb26f81b72227d7bad48824744e902e674e1a1fa65a471e057d", func := "buttery/butterylaw19.CoreAgain", spec := "coreAgain", unfollowed := true, recurses := true, plainKeys := false, apart := false, narrowed := true }
def CoreAgainUptoSaid : Prop := coreAgainUptoRow.holds Tryz.pinned (OpenSpec.upto coreAgainSpec)

/-- 'butterylaw19.CoreSound', WHERE WHAT IT READS IS OF BULK AT MOST 1048576: true; the input reads as it did. -/
def coreSoundUptoRow : OpenClaim := { program := "ytiliffhopdiepaagreat", sum := "1aad86e5e3fcdeb26f81b72227d7bad48824744e902e674e1a1fa65a471e057d", func := "buttery/butterylaw19.CoreSound", spec := "coreSound", unfollowed := true, recurses := true, plainKeys := false, apart := false, narrowed := true }
def CoreSoundUptoSaid : Prop := coreSoundUptoRow.holds Tryz.pinned (OpenSpec.upto coreSoundSpec)

/-- 'butterylaw19.CorePrivate', WHERE WHAT IT READS IS OF BULK AT MOST 1048576: true; the input reads as it did. -/
def corePrivateUptoRow : OpenClaim := { program := "ytiliffhopdiepaagreat", sum := "1aad86e5e3fcdeb26f81b72227d7bad48824744e902e674e1a1fa65a471e057d", func := "buttery/butterylaw19.CorePrivate", spec := "corePrivate", unfollowed := true, recurses := true, plainKeys := false, apart := false, narrowed := true }
def CorePrivateUptoSaid : Prop := corePrivateUptoRow.holds Tryz.pinned (OpenSpec.upto corePrivateSpec)

/-- 'butterylaw19.CoreTwo', WHERE WHAT IT READS IS OF BULK AT MOST 1048576: true; the input reads as it did. -/
def coreTwoUptoRow : OpenClaim := { program := "ytiliffhopdiepaagreat", sum := "1aad86e5e3fcdeb26f81b72227d7bad48824744e902e674e1a1fa65a471e057d", func := "buttery/butterylaw19.CoreTwo", spec := "coreTwo", unfollowed := true, recurses := true, plainKeys := false, apart := false, narrowed := true }
def CoreTwoUptoSaid : Prop := coreTwoUptoRow.holds Tryz.pinned (OpenSpec.upto coreTwoSpec)

/-- 'butterylaw19.CoreAnswers', WHERE WHAT IT READS IS OF BULK AT MOST 1048576: true; the input reads as it did. -/
def coreAnswersUptoRow : OpenClaim := { program := "ytiliffhopdiepaagreat", sum := "1aad86e5e3fcdeb26f81b72227d7bad48824744e902e674e1a1fa65a471e057d", func := "buttery/butterylaw19.CoreAnswers", spec := "coreAnswers", unfollowed := true, recurses := true, plainKeys := false, apart := false, narrowed := true }
def CoreAnswersUptoSaid : Prop := coreAnswersUptoRow.holds Tryz.pinned (OpenSpec.upto coreAnswersSpec)

end Rows
end Go.Proofs.YtiliffhopdiepaaGreat
