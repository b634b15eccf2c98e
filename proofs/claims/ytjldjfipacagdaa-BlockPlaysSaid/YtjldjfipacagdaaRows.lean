/-
  No cell of these rows narrows 'for every input' (looked for: loops, veiled, ifaces, maps, wideKeys, modest, calm, conditions, laid).
  DERIVED. THE GIVEN ROWS OF THIS SEAT. 5 by the template 'for every input the law returns true; each argument reads behind the call as it read before'; 0 by the template 'total and deterministic' (their statements: YtjldjfipacagdaaTotals.lean).
  GIVEN WITH THE SEED: the statements are not yours to turn. If you find one false, say at which input.
  Laid BY PROGRAM, IN A SANDBOX (cutbox-rows.mjs): the forced cells as the released guide's own fill.sh prints them over the translation 9c0e51fa4cb7e640… (all of the seat's roots in one cut). By AI agents, Wed Nov 11 2026. No macro, syntax, notation, axiom, sorry.
-/
import Derived.Test.YtjldjfipacagdaaChecked
import GoSem.Claim
import GoSem.ClaimJoined
import GoSem.ClaimMapViews
import Derived.JoinedTies
import Derived.KernelRfl
namespace Go.Proofs.Ytjldjfipacagdaa
/- THE CELL 'sum', in the pinned program and in every row, IS THE sha256 OF THE DUMP (.gsa) THAT YtjldjfipacagdaaProg.lean LOADS. Nothing in Lean hashes anything: it is a label: what it is worth is what the hold of that sum in a sandbox is worth. -/
noncomputable def Try.pinned : Pinned := { name := "ytjldjfipacagdaa", sum := "9c0e51fa4cb7e640d92883ec07c14316db3b196c0ac57a669b0d2d9e602dd064", checked := Try.checked }
namespace Rows
def none {H : Type} : Left H := { results := [], args := [] }

/-- 'mailbaglaw2.BlockVersions': WHATEVER THE INPUT: true; the input reads as it did. -/
def blockVersionsSpec : ChangeSpec := { name := "blockVersions", fn := fun _ => fun
  | [d1, d2, d3] => { results := [.lit (.bool true)], args := [d1, d2, d3] }
  | _ => none }
def blockVersionsRow : OpenClaim := { program := "ytjldjfipacagdaa", sum := "9c0e51fa4cb7e640d92883ec07c14316db3b196c0ac57a669b0d2d9e602dd064", func := "mailbag/mailbaglaw2.BlockVersions", spec := "blockVersions", unfollowed := true, recurses := true, apart := false }
def BlockVersionsSaid : Prop := blockVersionsRow.holds Try.pinned (OpenSpec.ofChange blockVersionsSpec)

/-- ITS FALSE NEIGHBOUR: 'it returns false'. Refute it at one input. -/
def blockVersionsWrong : ChangeSpec := { name := "blockVersions", fn := fun _ => fun
  | [d1, d2, d3] => { results := [.lit (.bool false)], args := [d1, d2, d3] }
  | _ => none }
def BlockVersionsWrongFalsely : Prop := blockVersionsRow.holds Try.pinned (OpenSpec.ofChange blockVersionsWrong)

/-- 'mailbaglaw2.BlockArms': WHATEVER THE INPUT: true; the input reads as it did. -/
def blockArmsSpec : ChangeSpec := { name := "blockArms", fn := fun _ => fun
  | [d1, d2, d3] => { results := [.lit (.bool true)], args := [d1, d2, d3] }
  | _ => none }
def blockArmsRow : OpenClaim := { program := "ytjldjfipacagdaa", sum := "9c0e51fa4cb7e640d92883ec07c14316db3b196c0ac57a669b0d2d9e602dd064", func := "mailbag/mailbaglaw2.BlockArms", spec := "blockArms", unfollowed := true, recurses := true, apart := false }
def BlockArmsSaid : Prop := blockArmsRow.holds Try.pinned (OpenSpec.ofChange blockArmsSpec)

/-- ITS FALSE NEIGHBOUR: 'it returns false'. Refute it at one input. -/
def blockArmsWrong : ChangeSpec := { name := "blockArms", fn := fun _ => fun
  | [d1, d2, d3] => { results := [.lit (.bool false)], args := [d1, d2, d3] }
  | _ => none }
def BlockArmsWrongFalsely : Prop := blockArmsRow.holds Try.pinned (OpenSpec.ofChange blockArmsWrong)

/-- 'mailbaglaw2.BlockSynced': WHATEVER THE INPUT: true; the input reads as it did. -/
def blockSyncedSpec : ChangeSpec := { name := "blockSynced", fn := fun _ => fun
  | [d1, d2, d3] => { results := [.lit (.bool true)], args := [d1, d2, d3] }
  | _ => none }
def blockSyncedRow : OpenClaim := { program := "ytjldjfipacagdaa", sum := "9c0e51fa4cb7e640d92883ec07c14316db3b196c0ac57a669b0d2d9e602dd064", func := "mailbag/mailbaglaw2.BlockSynced", spec := "blockSynced", unfollowed := true, recurses := true, apart := false }
def BlockSyncedSaid : Prop := blockSyncedRow.holds Try.pinned (OpenSpec.ofChange blockSyncedSpec)

/-- ITS FALSE NEIGHBOUR: 'it returns false'. Refute it at one input. -/
def blockSyncedWrong : ChangeSpec := { name := "blockSynced", fn := fun _ => fun
  | [d1, d2, d3] => { results := [.lit (.bool false)], args := [d1, d2, d3] }
  | _ => none }
def BlockSyncedWrongFalsely : Prop := blockSyncedRow.holds Try.pinned (OpenSpec.ofChange blockSyncedWrong)

/-- 'mailbaglaw2.BlockTwins': WHATEVER THE INPUT: true; the input reads as it did. -/
def blockTwinsSpec : ChangeSpec := { name := "blockTwins", fn := fun _ => fun
  | [d1, d2] => { results := [.lit (.bool true)], args := [d1, d2] }
  | _ => none }
def blockTwinsRow : OpenClaim := { program := "ytjldjfipacagdaa", sum := "9c0e51fa4cb7e640d92883ec07c14316db3b196c0ac57a669b0d2d9e602dd064", func := "mailbag/mailbaglaw2.BlockTwins", spec := "blockTwins", unfollowed := true, recurses := true, apart := false }
def BlockTwinsSaid : Prop := blockTwinsRow.holds Try.pinned (OpenSpec.ofChange blockTwinsSpec)

/-- ITS FALSE NEIGHBOUR: 'it returns false'. Refute it at one input. -/
def blockTwinsWrong : ChangeSpec := { name := "blockTwins", fn := fun _ => fun
  | [d1, d2] => { results := [.lit (.bool false)], args := [d1, d2] }
  | _ => none }
def BlockTwinsWrongFalsely : Prop := blockTwinsRow.holds Try.pinned (OpenSpec.ofChange blockTwinsWrong)

/-- 'mailbaglaw2.BlockPlays': WHATEVER THE INPUT: true; the input reads as it did. -/
def blockPlaysSpec : ChangeSpec := { name := "blockPlays", fn := fun _ => fun
  | [d1, d2] => { results := [.lit (.bool true)], args := [d1, d2] }
  | _ => none }
def blockPlaysRow : OpenClaim := { program := "ytjldjfipacagdaa", sum := "9c0e51fa4cb7e640d92883ec07c14316db3b196c0ac57a669b0d2d9e602dd064", func := "mailbag/mailbaglaw2.BlockPlays", spec := "blockPlays", unfollowed := true, recurses := true, apart := false }
def BlockPlaysSaid : Prop := blockPlaysRow.holds Try.pinned (OpenSpec.ofChange blockPlaysSpec)

/-- ITS FALSE NEIGHBOUR: 'it returns false'. Refute it at one input. -/
def blockPlaysWrong : ChangeSpec := { name := "blockPlays", fn := fun _ => fun
  | [d1, d2] => { results := [.lit (.bool false)], args := [d1, d2] }
  | _ => none }
def BlockPlaysWrongFalsely : Prop := blockPlaysRow.holds Try.pinned (OpenSpec.ofChange blockPlaysWrong)

/- THE SECOND FORM. 'bulk': how many values and letters a reading holds, each counted each time it is reached (what is shared counts as often as it is met; a slice's spare places count too). A statement '..UptoSaid' is the law's where the arguments, and the package variables that the reading takes, are together of bulk at most 1048576: NARROWER than '..Said'. Prove '..Said' where nothing that the law and all that it calls make is longer than what came in: it says more and counts as full. Else prove '..UptoSaid'. A law counts once. -/
mutual
def uptoBulk {H : Type} : DataW H → Nat
  | .lit (.string bytes) => bytes.length + 1
  | .lit _ => 1
  | .nil => 1
  | .ptr d => uptoBulk d + 1
  | .slice elems spare => uptoBulkAll elems + uptoBulkAll spare + 1
  | .agg parts => uptoBulkAll parts + 1
  | .iface _ d => uptoBulk d + 1
  | .map entries => uptoBulkEntries entries + 1
  | .held _ => 1
def uptoBulkAll {H : Type} : List (DataW H) → Nat
  | [] => 0
  | d :: r => uptoBulk d + uptoBulkAll r
def uptoBulkEntries {H : Type} : List (Lit × DataW H) → Nat
  | [] => 0
  | x :: r => uptoBulkEntry x + uptoBulkEntries r
def uptoBulkEntry {H : Type} : Lit × DataW H → Nat
  | (.string bytes, d) => bytes.length + uptoBulk d + 1
  | (_, d) => uptoBulk d + 1
 end
def uptoSmall : (H : Type) → List (DataW H) → Bool := fun _ ds => decide (uptoBulkAll ds ≤ 1048576)
def OpenSpec.upto (s : _root_.Go.ChangeSpec) : _root_.Go.OpenSpec := { _root_.Go.OpenSpec.ofChange s with cond := some uptoSmall }

/-- 'mailbaglaw2.BlockVersions', WHERE WHAT IT READS IS OF BULK AT MOST 1048576: true; the input reads as it did. -/
def blockVersionsUptoRow : OpenClaim := { program := "ytjldjfipacagdaa", sum := "9c0e51fa4cb7e640d92883ec07c14316db3b196c0ac57a669b0d2d9e602dd064", func := "mailbag/mailbaglaw2.BlockVersions", spec := "blockVersions", unfollowed := true, recurses := true, apart := false, narrowed := true }
def BlockVersionsUptoSaid : Prop := blockVersionsUptoRow.holds Try.pinned (OpenSpec.upto blockVersionsSpec)

/-- 'mailbaglaw2.BlockArms', WHERE WHAT IT READS IS OF BULK AT MOST 1048576: true; the input reads as it did. -/
def blockArmsUptoRow : OpenClaim := { program := "ytjldjfipacagdaa", sum := "9c0e51fa4cb7e640d92883ec07c14316db3b196c0ac57a669b0d2d9e602dd064", func := "mailbag/mailbaglaw2.BlockArms", spec := "blockArms", unfollowed := true, recurses := true, apart := false, narrowed := true }
def BlockArmsUptoSaid : Prop := blockArmsUptoRow.holds Try.pinned (OpenSpec.upto blockArmsSpec)

/-- 'mailbaglaw2.BlockSynced', WHERE WHAT IT READS IS OF BULK AT MOST 1048576: true; the input reads as it did. -/
def blockSyncedUptoRow : OpenClaim := { program := "ytjldjfipacagdaa", sum := "9c0e51fa4cb7e640d92883ec07c14316db3b196c0ac57a669b0d2d9e602dd064", func := "mailbag/mailbaglaw2.BlockSynced", spec := "blockSynced", unfollowed := true, recurses := true, apart := false, narrowed := true }
def BlockSyncedUptoSaid : Prop := blockSyncedUptoRow.holds Try.pinned (OpenSpec.upto blockSyncedSpec)

/-- 'mailbaglaw2.BlockTwins', WHERE WHAT IT READS IS OF BULK AT MOST 1048576: true; the input reads as it did. -/
def blockTwinsUptoRow : OpenClaim := { program := "ytjldjfipacagdaa", sum := "9c0e51fa4cb7e640d92883ec07c14316db3b196c0ac57a669b0d2d9e602dd064", func := "mailbag/mailbaglaw2.BlockTwins", spec := "blockTwins", unfollowed := true, recurses := true, apart := false, narrowed := true }
def BlockTwinsUptoSaid : Prop := blockTwinsUptoRow.holds Try.pinned (OpenSpec.upto blockTwinsSpec)

/-- 'mailbaglaw2.BlockPlays', WHERE WHAT IT READS IS OF BULK AT MOST 1048576: true; the input reads as it did. -/
def blockPlaysUptoRow : OpenClaim := { program := "ytjldjfipacagdaa", sum := "9c0e51fa4cb7e640d92883ec07c14316db3b196c0ac57a669b0d2d9e602dd064", func := "mailbag/mailbaglaw2.BlockPlays", spec := "blockPlays", unfollowed := true, recurses := true, apart := false, narrowed := true }
def BlockPlaysUptoSaid : Prop := blockPlaysUptoRow.holds Try.pinned (OpenSpec.upto blockPlaysSpec)

end Rows
end Go.Proofs.Ytjldjfipacagdaa
