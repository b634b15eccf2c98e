/-
  No cell of these rows narrows 'for every input' (looked for: loops, veiled, ifaces, maps, wideKeys, modest, calm, conditions, laid).
  DERIVED. THE GIVEN ROWS OF THIS SEAT. 4 by the template 'for every input the law returns true; each argument reads behind the call as it read before'; 0 by the template 'total and deterministic' (their statements: YtoloogpglnonaaaTotals.lean).
  GIVEN WITH THE SEED: the statements are not yours to turn. If you find one false, say at which input.
  Laid BY PROGRAM, IN A SANDBOX (cutbox-rows.mjs): the forced cells as the released guide's own fill.sh prints them over the translation 4fc840ba0d69a45a… (all of the seat's roots in one cut). By AI agents, Wed Nov 11 2026. No macro, syntax, notation, axiom, sorry.
-/
import Derived.Test.YtoloogpglnonaaaChecked
import GoSem.Claim
import GoSem.ClaimJoined
import GoSem.ClaimMapViews
import Derived.JoinedTies
import Derived.KernelRfl
namespace Go.Proofs.Ytoloogpglnonaaa
/- THE CELL 'sum', in the pinned program and in every row, IS THE sha256 OF THE DUMP (.gsa) THAT YtoloogpglnonaaaProg.lean LOADS. Nothing in Lean hashes anything: it is a label: what it is worth is what the hold of that sum in a sandbox is worth. -/
noncomputable def Try.pinned : Pinned := { name := "ytoloogpglnonaaa", sum := "4fc840ba0d69a45aa9db36206adc5eec52ce7148be3cc05828d6493bdda71760", checked := Try.checked }
namespace Rows
def none {H : Type} : Left H := { results := [], args := [] }

/-- 'mailbaglaw9.DirGrows': WHATEVER THE INPUT: true; the input reads as it did. -/
def dirGrowsSpec : ChangeSpec := { name := "dirGrows", fn := fun _ => fun
  | [d1, d2] => { results := [.lit (.bool true)], args := [d1, d2] }
  | _ => none }
def dirGrowsRow : OpenClaim := { program := "ytoloogpglnonaaa", sum := "4fc840ba0d69a45aa9db36206adc5eec52ce7148be3cc05828d6493bdda71760", func := "mailbag/mailbaglaw9.DirGrows", spec := "dirGrows", unfollowed := true, recurses := true, apart := false }
def DirGrowsSaid : Prop := dirGrowsRow.holds Try.pinned (OpenSpec.ofChange dirGrowsSpec)

/-- ITS FALSE NEIGHBOUR: 'it returns false'. Refute it at one input. -/
def dirGrowsWrong : ChangeSpec := { name := "dirGrows", fn := fun _ => fun
  | [d1, d2] => { results := [.lit (.bool false)], args := [d1, d2] }
  | _ => none }
def DirGrowsWrongFalsely : Prop := dirGrowsRow.holds Try.pinned (OpenSpec.ofChange dirGrowsWrong)

/-- 'mailbaglaw9.DirMoves': WHATEVER THE INPUT: true; the input reads as it did. -/
def dirMovesSpec : ChangeSpec := { name := "dirMoves", fn := fun _ => fun
  | [d1, d2, d3] => { results := [.lit (.bool true)], args := [d1, d2, d3] }
  | _ => none }
def dirMovesRow : OpenClaim := { program := "ytoloogpglnonaaa", sum := "4fc840ba0d69a45aa9db36206adc5eec52ce7148be3cc05828d6493bdda71760", func := "mailbag/mailbaglaw9.DirMoves", spec := "dirMoves", unfollowed := true, recurses := true, apart := false }
def DirMovesSaid : Prop := dirMovesRow.holds Try.pinned (OpenSpec.ofChange dirMovesSpec)

/-- ITS FALSE NEIGHBOUR: 'it returns false'. Refute it at one input. -/
def dirMovesWrong : ChangeSpec := { name := "dirMoves", fn := fun _ => fun
  | [d1, d2, d3] => { results := [.lit (.bool false)], args := [d1, d2, d3] }
  | _ => none }
def DirMovesWrongFalsely : Prop := dirMovesRow.holds Try.pinned (OpenSpec.ofChange dirMovesWrong)

/-- 'mailbaglaw9.DirBytes': WHATEVER THE INPUT: true; the input reads as it did. -/
def dirBytesSpec : ChangeSpec := { name := "dirBytes", fn := fun _ => fun
  | [d1, d2, d3] => { results := [.lit (.bool true)], args := [d1, d2, d3] }
  | _ => none }
def dirBytesRow : OpenClaim := { program := "ytoloogpglnonaaa", sum := "4fc840ba0d69a45aa9db36206adc5eec52ce7148be3cc05828d6493bdda71760", func := "mailbag/mailbaglaw9.DirBytes", spec := "dirBytes", unfollowed := true, recurses := true, apart := false }
def DirBytesSaid : Prop := dirBytesRow.holds Try.pinned (OpenSpec.ofChange dirBytesSpec)

/-- ITS FALSE NEIGHBOUR: 'it returns false'. Refute it at one input. -/
def dirBytesWrong : ChangeSpec := { name := "dirBytes", fn := fun _ => fun
  | [d1, d2, d3] => { results := [.lit (.bool false)], args := [d1, d2, d3] }
  | _ => none }
def DirBytesWrongFalsely : Prop := dirBytesRow.holds Try.pinned (OpenSpec.ofChange dirBytesWrong)

/-- 'mailbaglaw9.DirBits': WHATEVER THE INPUT: true; the input reads as it did. -/
def dirBitsSpec : ChangeSpec := { name := "dirBits", fn := fun _ => fun
  | [d1, d2] => { results := [.lit (.bool true)], args := [d1, d2] }
  | _ => none }
def dirBitsRow : OpenClaim := { program := "ytoloogpglnonaaa", sum := "4fc840ba0d69a45aa9db36206adc5eec52ce7148be3cc05828d6493bdda71760", func := "mailbag/mailbaglaw9.DirBits", spec := "dirBits", unfollowed := true, recurses := true, apart := false }
def DirBitsSaid : Prop := dirBitsRow.holds Try.pinned (OpenSpec.ofChange dirBitsSpec)

/-- ITS FALSE NEIGHBOUR: 'it returns false'. Refute it at one input. -/
def dirBitsWrong : ChangeSpec := { name := "dirBits", fn := fun _ => fun
  | [d1, d2] => { results := [.lit (.bool false)], args := [d1, d2] }
  | _ => none }
def DirBitsWrongFalsely : Prop := dirBitsRow.holds Try.pinned (OpenSpec.ofChange dirBitsWrong)

/- THE SECOND FORM. 'bulk': how many values and letters a reading holds, each counted each time it is reached (what is shared counts as often as it is met; a slice's spare places count too). A statement '..UptoSaid' is the law's where the arguments, and the package variables that the reading takes, are together of bulk at most 1048576: NARROWER than '..Said'. Prove '..Said' where nothing that the law and all that it calls make is longer than what came in: it says more and counts as full. Else prove '..UptoSaid'. A law counts once. -/
mutual
def uptoBulk {H : Type} : DataW H → Nat
  | .lit (.string bytes) => bytes.length + 1
  | .lit _ => 1
  | .nil => 1
  | .ptr d => uptoBulk d + 1
  | .slice elems spare => uptoBulkAll elems + uptoBulkAll spare + 1
  | .agg parts => uptoBulkAll parts + 1
  | .iface _ d => uptoBulk d + 1
  | .map entries => uptoBulkEntries entries + 1
  | .held _ => 1
def uptoBulkAll {H : Type} : List (DataW H) → Nat
  | [] => 0
  | d :: r => uptoBulk d + uptoBulkAll r
def uptoBulkEntries {H : Type} : List (Lit × DataW H) → Nat
  | [] => 0
  | x :: r => uptoBulkEntry x + uptoBulkEntries r
def uptoBulkEntry {H : Type} : Lit × DataW H → Nat
  | (.string bytes, d) => bytes.length + uptoBulk d + 1
  | (_, d) => uptoBulk d + 1
 end
def uptoSmall : (H : Type) → List (DataW H) → Bool := fun _ ds => decide (uptoBulkAll ds ≤ 1048576)
def OpenSpec.upto (s : _root_.Go.ChangeSpec) : _root_.Go.OpenSpec := { _root_.Go.OpenSpec.ofChange s with cond := some uptoSmall }

/-- 'mailbaglaw9.DirGrows', WHERE WHAT IT READS IS OF BULK AT MOST 1048576: true; the input reads as it did. -/
def dirGrowsUptoRow : OpenClaim := { program := "ytoloogpglnonaaa", sum := "4fc840ba0d69a45aa9db36206adc5eec52ce7148be3cc05828d6493bdda71760", func := "mailbag/mailbaglaw9.DirGrows", spec := "dirGrows", unfollowed := true, recurses := true, apart := false, narrowed := true }
def DirGrowsUptoSaid : Prop := dirGrowsUptoRow.holds Try.pinned (OpenSpec.upto dirGrowsSpec)

/-- 'mailbaglaw9.DirMoves', WHERE WHAT IT READS IS OF BULK AT MOST 1048576: true; the input reads as it did. -/
def dirMovesUptoRow : OpenClaim := { program := "ytoloogpglnonaaa", sum := "4fc840ba0d69a45aa9db36206adc5eec52ce7148be3cc05828d6493bdda71760", func := "mailbag/mailbaglaw9.DirMoves", spec := "dirMoves", unfollowed := true, recurses := true, apart := false, narrowed := true }
def DirMovesUptoSaid : Prop := dirMovesUptoRow.holds Try.pinned (OpenSpec.upto dirMovesSpec)

/-- 'mailbaglaw9.DirBytes', WHERE WHAT IT READS IS OF BULK AT MOST 1048576: true; the input reads as it did. -/
def dirBytesUptoRow : OpenClaim := { program := "ytoloogpglnonaaa", sum := "4fc840ba0d69a45aa9db36206adc5eec52ce7148be3cc05828d6493bdda71760", func := "mailbag/mailbaglaw9.DirBytes", spec := "dirBytes", unfollowed := true, recurses := true, apart := false, narrowed := true }
def DirBytesUptoSaid : Prop := dirBytesUptoRow.holds Try.pinned (OpenSpec.upto dirBytesSpec)

/-- 'mailbaglaw9.DirBits', WHERE WHAT IT READS IS OF BULK AT MOST 1048576: true; the input reads as it did. -/
def dirBitsUptoRow : OpenClaim := { program := "ytoloogpglnonaaa", sum := "4fc840ba0d69a45aa9db36206adc5eec52ce7148be3cc05828d6493bdda71760", func := "mailbag/mailbaglaw9.DirBits", spec := "dirBits", unfollowed := true, recurses := true, apart := false, narrowed := true }
def DirBitsUptoSaid : Prop := dirBitsUptoRow.holds Try.pinned (OpenSpec.upto dirBitsSpec)

end Rows
end Go.Proofs.Ytoloogpglnonaaa
