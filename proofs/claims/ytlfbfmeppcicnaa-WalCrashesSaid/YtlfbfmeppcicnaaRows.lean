/-
  No cell of these rows narrows 'for every input' (looked for: loops, veiled, ifaces, maps, wideKeys, modest, calm, conditions, laid).
  DERIVED. THE GIVEN ROWS OF THIS SEAT. 9 by the template 'for every input the law returns true; each argument reads behind the call as it read before'; 0 by the template 'total and deterministic' (their statements: YtlfbfmeppcicnaaTotals.lean).
  GIVEN WITH THE SEED: the statements are not yours to turn. If you find one false, say at which input.
  Laid BY PROGRAM, IN A SANDBOX (cutbox-rows.mjs): the forced cells as the released guide's own fill.sh prints them over the translation bc57fd0a4e6c2a98… (all of the seat's roots in one cut). By AI agents, Wed Nov 11 2026. No macro, syntax, notation, axiom, sorry.
-/
import Derived.Test.YtlfbfmeppcicnaaChecked
import GoSem.Claim
import GoSem.ClaimJoined
import GoSem.ClaimMapViews
import Derived.JoinedTies
import Derived.KernelRfl
namespace Go.Proofs.Ytlfbfmeppcicnaa
/- THE CELL 'sum', in the pinned program and in every row, IS THE sha256 OF THE DUMP (.gsa) THAT YtlfbfmeppcicnaaProg.lean LOADS. Nothing in Lean hashes anything: it is a label: what it is worth is what the hold of that sum in a sandbox is worth. -/
noncomputable def Try.pinned : Pinned := { name := "ytlfbfmeppcicnaa", sum := "bc57fd0a4e6c2a98fc6ee791b4dab0f9367219fefc5e230da6065eb27d6ea124", checked := Try.checked }
namespace Rows
def none {H : Type} : Left H := { results := [], args := [] }

/-- 'mailbaglaw4.WalShapes': WHATEVER THE INPUT: true; the input reads as it did. -/
def walShapesSpec : ChangeSpec := { name := "walShapes", fn := fun _ => fun
  | [d] => { results := [.lit (.bool true)], args := [d] }
  | _ => none }
def walShapesRow : OpenClaim := { program := "ytlfbfmeppcicnaa", sum := "bc57fd0a4e6c2a98fc6ee791b4dab0f9367219fefc5e230da6065eb27d6ea124", func := "mailbag/mailbaglaw4.WalShapes", spec := "walShapes", unfollowed := true, recurses := true, apart := false }
def WalShapesSaid : Prop := walShapesRow.holds Try.pinned (OpenSpec.ofChange walShapesSpec)

/-- ITS FALSE NEIGHBOUR: 'it returns false'. Refute it at one input. -/
def walShapesWrong : ChangeSpec := { name := "walShapes", fn := fun _ => fun
  | [d] => { results := [.lit (.bool false)], args := [d] }
  | _ => none }
def WalShapesWrongFalsely : Prop := walShapesRow.holds Try.pinned (OpenSpec.ofChange walShapesWrong)

/-- 'mailbaglaw4.WalReopens': WHATEVER THE INPUT: true; the input reads as it did. -/
def walReopensSpec : ChangeSpec := { name := "walReopens", fn := fun _ => fun
  | [d1, d2, d3] => { results := [.lit (.bool true)], args := [d1, d2, d3] }
  | _ => none }
def walReopensRow : OpenClaim := { program := "ytlfbfmeppcicnaa", sum := "bc57fd0a4e6c2a98fc6ee791b4dab0f9367219fefc5e230da6065eb27d6ea124", func := "mailbag/mailbaglaw4.WalReopens", spec := "walReopens", unfollowed := true, recurses := true, apart := false }
def WalReopensSaid : Prop := walReopensRow.holds Try.pinned (OpenSpec.ofChange walReopensSpec)

/-- ITS FALSE NEIGHBOUR: 'it returns false'. Refute it at one input. -/
def walReopensWrong : ChangeSpec := { name := "walReopens", fn := fun _ => fun
  | [d1, d2, d3] => { results := [.lit (.bool false)], args := [d1, d2, d3] }
  | _ => none }
def WalReopensWrongFalsely : Prop := walReopensRow.holds Try.pinned (OpenSpec.ofChange walReopensWrong)

/-- 'mailbaglaw4.WalRoom': WHATEVER THE INPUT: true; the input reads as it did. -/
def walRoomSpec : ChangeSpec := { name := "walRoom", fn := fun _ => fun
  | [d1, d2] => { results := [.lit (.bool true)], args := [d1, d2] }
  | _ => none }
def walRoomRow : OpenClaim := { program := "ytlfbfmeppcicnaa", sum := "bc57fd0a4e6c2a98fc6ee791b4dab0f9367219fefc5e230da6065eb27d6ea124", func := "mailbag/mailbaglaw4.WalRoom", spec := "walRoom", unfollowed := true, recurses := true, apart := false }
def WalRoomSaid : Prop := walRoomRow.holds Try.pinned (OpenSpec.ofChange walRoomSpec)

/-- ITS FALSE NEIGHBOUR: 'it returns false'. Refute it at one input. -/
def walRoomWrong : ChangeSpec := { name := "walRoom", fn := fun _ => fun
  | [d1, d2] => { results := [.lit (.bool false)], args := [d1, d2] }
  | _ => none }
def WalRoomWrongFalsely : Prop := walRoomRow.holds Try.pinned (OpenSpec.ofChange walRoomWrong)

/-- 'mailbaglaw4.WalRows': WHATEVER THE INPUT: true; the input reads as it did. -/
def walRowsSpec : ChangeSpec := { name := "walRows", fn := fun _ => fun
  | [d1, d2] => { results := [.lit (.bool true)], args := [d1, d2] }
  | _ => none }
def walRowsRow : OpenClaim := { program := "ytlfbfmeppcicnaa", sum := "bc57fd0a4e6c2a98fc6ee791b4dab0f9367219fefc5e230da6065eb27d6ea124", func := "mailbag/mailbaglaw4.WalRows", spec := "walRows", unfollowed := true, recurses := true, apart := false }
def WalRowsSaid : Prop := walRowsRow.holds Try.pinned (OpenSpec.ofChange walRowsSpec)

/-- ITS FALSE NEIGHBOUR: 'it returns false'. Refute it at one input. -/
def walRowsWrong : ChangeSpec := { name := "walRows", fn := fun _ => fun
  | [d1, d2] => { results := [.lit (.bool false)], args := [d1, d2] }
  | _ => none }
def WalRowsWrongFalsely : Prop := walRowsRow.holds Try.pinned (OpenSpec.ofChange walRowsWrong)

/-- 'mailbaglaw4.WalFormats': WHATEVER THE INPUT: true; the input reads as it did. -/
def walFormatsSpec : ChangeSpec := { name := "walFormats", fn := fun _ => fun
  | [d1, d2, d3] => { results := [.lit (.bool true)], args := [d1, d2, d3] }
  | _ => none }
def walFormatsRow : OpenClaim := { program := "ytlfbfmeppcicnaa", sum := "bc57fd0a4e6c2a98fc6ee791b4dab0f9367219fefc5e230da6065eb27d6ea124", func := "mailbag/mailbaglaw4.WalFormats", spec := "walFormats", unfollowed := true, recurses := true, apart := false }
def WalFormatsSaid : Prop := walFormatsRow.holds Try.pinned (OpenSpec.ofChange walFormatsSpec)

/-- ITS FALSE NEIGHBOUR: 'it returns false'. Refute it at one input. -/
def walFormatsWrong : ChangeSpec := { name := "walFormats", fn := fun _ => fun
  | [d1, d2, d3] => { results := [.lit (.bool false)], args := [d1, d2, d3] }
  | _ => none }
def WalFormatsWrongFalsely : Prop := walFormatsRow.holds Try.pinned (OpenSpec.ofChange walFormatsWrong)

/-- 'mailbaglaw4.WalGroups': WHATEVER THE INPUT: true; the input reads as it did. -/
def walGroupsSpec : ChangeSpec := { name := "walGroups", fn := fun _ => fun
  | [d1, d2, d3, d4] => { results := [.lit (.bool true)], args := [d1, d2, d3, d4] }
  | _ => none }
def walGroupsRow : OpenClaim := { program := "ytlfbfmeppcicnaa", sum := "bc57fd0a4e6c2a98fc6ee791b4dab0f9367219fefc5e230da6065eb27d6ea124", func := "mailbag/mailbaglaw4.WalGroups", spec := "walGroups", unfollowed := true, recurses := true, apart := false }
def WalGroupsSaid : Prop := walGroupsRow.holds Try.pinned (OpenSpec.ofChange walGroupsSpec)

/-- ITS FALSE NEIGHBOUR: 'it returns false'. Refute it at one input. -/
def walGroupsWrong : ChangeSpec := { name := "walGroups", fn := fun _ => fun
  | [d1, d2, d3, d4] => { results := [.lit (.bool false)], args := [d1, d2, d3, d4] }
  | _ => none }
def WalGroupsWrongFalsely : Prop := walGroupsRow.holds Try.pinned (OpenSpec.ofChange walGroupsWrong)

/-- 'mailbaglaw4.WalAborts': WHATEVER THE INPUT: true; the input reads as it did. -/
def walAbortsSpec : ChangeSpec := { name := "walAborts", fn := fun _ => fun
  | [d1, d2, d3] => { results := [.lit (.bool true)], args := [d1, d2, d3] }
  | _ => none }
def walAbortsRow : OpenClaim := { program := "ytlfbfmeppcicnaa", sum := "bc57fd0a4e6c2a98fc6ee791b4dab0f9367219fefc5e230da6065eb27d6ea124", func := "mailbag/mailbaglaw4.WalAborts", spec := "walAborts", unfollowed := true, recurses := true, apart := false }
def WalAbortsSaid : Prop := walAbortsRow.holds Try.pinned (OpenSpec.ofChange walAbortsSpec)

/-- ITS FALSE NEIGHBOUR: 'it returns false'. Refute it at one input. -/
def walAbortsWrong : ChangeSpec := { name := "walAborts", fn := fun _ => fun
  | [d1, d2, d3] => { results := [.lit (.bool false)], args := [d1, d2, d3] }
  | _ => none }
def WalAbortsWrongFalsely : Prop := walAbortsRow.holds Try.pinned (OpenSpec.ofChange walAbortsWrong)

/-- 'mailbaglaw4.WalPlays': WHATEVER THE INPUT: true; the input reads as it did. -/
def walPlaysSpec : ChangeSpec := { name := "walPlays", fn := fun _ => fun
  | [d] => { results := [.lit (.bool true)], args := [d] }
  | _ => none }
def walPlaysRow : OpenClaim := { program := "ytlfbfmeppcicnaa", sum := "bc57fd0a4e6c2a98fc6ee791b4dab0f9367219fefc5e230da6065eb27d6ea124", func := "mailbag/mailbaglaw4.WalPlays", spec := "walPlays", unfollowed := true, recurses := true, apart := false }
def WalPlaysSaid : Prop := walPlaysRow.holds Try.pinned (OpenSpec.ofChange walPlaysSpec)

/-- ITS FALSE NEIGHBOUR: 'it returns false'. Refute it at one input. -/
def walPlaysWrong : ChangeSpec := { name := "walPlays", fn := fun _ => fun
  | [d] => { results := [.lit (.bool false)], args := [d] }
  | _ => none }
def WalPlaysWrongFalsely : Prop := walPlaysRow.holds Try.pinned (OpenSpec.ofChange walPlaysWrong)

/-- 'mailbaglaw4.WalCrashes': WHATEVER THE INPUT: true; the input reads as it did. -/
def walCrashesSpec : ChangeSpec := { name := "walCrashes", fn := fun _ => fun
  | [d1, d2] => { results := [.lit (.bool true)], args := [d1, d2] }
  | _ => none }
def walCrashesRow : OpenClaim := { program := "ytlfbfmeppcicnaa", sum := "bc57fd0a4e6c2a98fc6ee791b4dab0f9367219fefc5e230da6065eb27d6ea124", func := "mailbag/mailbaglaw4.WalCrashes", spec := "walCrashes", unfollowed := true, recurses := true, apart := false }
def WalCrashesSaid : Prop := walCrashesRow.holds Try.pinned (OpenSpec.ofChange walCrashesSpec)

/-- ITS FALSE NEIGHBOUR: 'it returns false'. Refute it at one input. -/
def walCrashesWrong : ChangeSpec := { name := "walCrashes", fn := fun _ => fun
  | [d1, d2] => { results := [.lit (.bool false)], args := [d1, d2] }
  | _ => none }
def WalCrashesWrongFalsely : Prop := walCrashesRow.holds Try.pinned (OpenSpec.ofChange walCrashesWrong)

/- THE SECOND FORM. 'bulk': how many values and letters a reading holds, each counted each time it is reached (what is shared counts as often as it is met; a slice's spare places count too). A statement '..UptoSaid' is the law's where the arguments, and the package variables that the reading takes, are together of bulk at most 1048576: NARROWER than '..Said'. Prove '..Said' where nothing that the law and all that it calls make is longer than what came in: it says more and counts as full. Else prove '..UptoSaid'. A law counts once. -/
mutual
def uptoBulk {H : Type} : DataW H → Nat
  | .lit (.string bytes) => bytes.length + 1
  | .lit _ => 1
  | .nil => 1
  | .ptr d => uptoBulk d + 1
  | .slice elems spare => uptoBulkAll elems + uptoBulkAll spare + 1
  | .agg parts => uptoBulkAll parts + 1
  | .iface _ d => uptoBulk d + 1
  | .map entries => uptoBulkEntries entries + 1
  | .held _ => 1
def uptoBulkAll {H : Type} : List (DataW H) → Nat
  | [] => 0
  | d :: r => uptoBulk d + uptoBulkAll r
def uptoBulkEntries {H : Type} : List (Lit × DataW H) → Nat
  | [] => 0
  | x :: r => uptoBulkEntry x + uptoBulkEntries r
def uptoBulkEntry {H : Type} : Lit × DataW H → Nat
  | (.string bytes, d) => bytes.length + uptoBulk d + 1
  | (_, d) => uptoBulk d + 1
 end
def uptoSmall : (H : Type) → List (DataW H) → Bool := fun _ ds => decide (uptoBulkAll ds ≤ 1048576)
def OpenSpec.upto (s : _root_.Go.ChangeSpec) : _root_.Go.OpenSpec := { _root_.Go.OpenSpec.ofChange s with cond := some uptoSmall }

/-- 'mailbaglaw4.WalShapes', WHERE WHAT IT READS IS OF BULK AT MOST 1048576: true; the input reads as it did. -/
def walShapesUptoRow : OpenClaim := { program := "ytlfbfmeppcicnaa", sum := "bc57fd0a4e6c2a98fc6ee791b4dab0f9367219fefc5e230da6065eb27d6ea124", func := "mailbag/mailbaglaw4.WalShapes", spec := "walShapes", unfollowed := true, recurses := true, apart := false, narrowed := true }
def WalShapesUptoSaid : Prop := walShapesUptoRow.holds Try.pinned (OpenSpec.upto walShapesSpec)

/-- 'mailbaglaw4.WalReopens', WHERE WHAT IT READS IS OF BULK AT MOST 1048576: true; the input reads as it did. -/
def walReopensUptoRow : OpenClaim := { program := "ytlfbfmeppcicnaa", sum := "bc57fd0a4e6c2a98fc6ee791b4dab0f9367219fefc5e230da6065eb27d6ea124", func := "mailbag/mailbaglaw4.WalReopens", spec := "walReopens", unfollowed := true, recurses := true, apart := false, narrowed := true }
def WalReopensUptoSaid : Prop := walReopensUptoRow.holds Try.pinned (OpenSpec.upto walReopensSpec)

/-- 'mailbaglaw4.WalRoom', WHERE WHAT IT READS IS OF BULK AT MOST 1048576: true; the input reads as it did. -/
def walRoomUptoRow : OpenClaim := { program := "ytlfbfmeppcicnaa", sum := "bc57fd0a4e6c2a98fc6ee791b4dab0f9367219fefc5e230da6065eb27d6ea124", func := "mailbag/mailbaglaw4.WalRoom", spec := "walRoom", unfollowed := true, recurses := true, apart := false, narrowed := true }
def WalRoomUptoSaid : Prop := walRoomUptoRow.holds Try.pinned (OpenSpec.upto walRoomSpec)

/-- 'mailbaglaw4.WalRows', WHERE WHAT IT READS IS OF BULK AT MOST 1048576: true; the input reads as it did. -/
def walRowsUptoRow : OpenClaim := { program := "ytlfbfmeppcicnaa", sum := "bc57fd0a4e6c2a98fc6ee791b4dab0f9367219fefc5e230da6065eb27d6ea124", func := "mailbag/mailbaglaw4.WalRows", spec := "walRows", unfollowed := true, recurses := true, apart := false, narrowed := true }
def WalRowsUptoSaid : Prop := walRowsUptoRow.holds Try.pinned (OpenSpec.upto walRowsSpec)

/-- 'mailbaglaw4.WalFormats', WHERE WHAT IT READS IS OF BULK AT MOST 1048576: true; the input reads as it did. -/
def walFormatsUptoRow : OpenClaim := { program := "ytlfbfmeppcicnaa", sum := "bc57fd0a4e6c2a98fc6ee791b4dab0f9367219fefc5e230da6065eb27d6ea124", func := "mailbag/mailbaglaw4.WalFormats", spec := "walFormats", unfollowed := true, recurses := true, apart := false, narrowed := true }
def WalFormatsUptoSaid : Prop := walFormatsUptoRow.holds Try.pinned (OpenSpec.upto walFormatsSpec)

/-- 'mailbaglaw4.WalGroups', WHERE WHAT IT READS IS OF BULK AT MOST 1048576: true; the input reads as it did. -/
def walGroupsUptoRow : OpenClaim := { program := "ytlfbfmeppcicnaa", sum := "bc57fd0a4e6c2a98fc6ee791b4dab0f9367219fefc5e230da6065eb27d6ea124", func := "mailbag/mailbaglaw4.WalGroups", spec := "walGroups", unfollowed := true, recurses := true, apart := false, narrowed := true }
def WalGroupsUptoSaid : Prop := walGroupsUptoRow.holds Try.pinned (OpenSpec.upto walGroupsSpec)

/-- 'mailbaglaw4.WalAborts', WHERE WHAT IT READS IS OF BULK AT MOST 1048576: true; the input reads as it did. -/
def walAbortsUptoRow : OpenClaim := { program := "ytlfbfmeppcicnaa", sum := "bc57fd0a4e6c2a98fc6ee791b4dab0f9367219fefc5e230da6065eb27d6ea124", func := "mailbag/mailbaglaw4.WalAborts", spec := "walAborts", unfollowed := true, recurses := true, apart := false, narrowed := true }
def WalAbortsUptoSaid : Prop := walAbortsUptoRow.holds Try.pinned (OpenSpec.upto walAbortsSpec)

/-- 'mailbaglaw4.WalPlays', WHERE WHAT IT READS IS OF BULK AT MOST 1048576: true; the input reads as it did. -/
def walPlaysUptoRow : OpenClaim := { program := "ytlfbfmeppcicnaa", sum := "bc57fd0a4e6c2a98fc6ee791b4dab0f9367219fefc5e230da6065eb27d6ea124", func := "mailbag/mailbaglaw4.WalPlays", spec := "walPlays", unfollowed := true, recurses := true, apart := false, narrowed := true }
def WalPlaysUptoSaid : Prop := walPlaysUptoRow.holds Try.pinned (OpenSpec.upto walPlaysSpec)

/-- 'mailbaglaw4.WalCrashes', WHERE WHAT IT READS IS OF BULK AT MOST 1048576: true; the input reads as it did. -/
def walCrashesUptoRow : OpenClaim := { program := "ytlfbfmeppcicnaa", sum := "bc57fd0a4e6c2a98fc6ee791b4dab0f9367219fefc5e230da6065eb27d6ea124", func := "mailbag/mailbaglaw4.WalCrashes", spec := "walCrashes", unfollowed := true, recurses := true, apart := false, narrowed := true }
def WalCrashesUptoSaid : Prop := walCrashesUptoRow.holds Try.pinned (OpenSpec.upto walCrashesSpec)

end Rows
end Go.Proofs.Ytlfbfmeppcicnaa
