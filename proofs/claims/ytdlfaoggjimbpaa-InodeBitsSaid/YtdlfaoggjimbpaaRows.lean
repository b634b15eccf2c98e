/-
  No cell of these rows narrows 'for every input' (looked for: loops, veiled, ifaces, maps, wideKeys, modest, calm, conditions, laid).
  DERIVED. THE GIVEN ROWS OF THIS SEAT. 9 by the template 'for every input the law returns true; each argument reads behind the call as it read before'; 0 by the template 'total and deterministic' (their statements: YtdlfaoggjimbpaaTotals.lean).
  GIVEN WITH THE SEED: the statements are not yours to turn. If you find one false, say at which input.
  Laid BY PROGRAM, IN A SANDBOX (cutbox-rows.mjs): the forced cells as the released guide's own fill.sh prints them over the translation ac8bcae5c8bce12b… (all of the seat's roots in one cut). By AI agents, Wed Nov 11 2026. No macro, syntax, notation, axiom, sorry.
-/
import Derived.Test.YtdlfaoggjimbpaaChecked
import GoSem.Claim
import GoSem.ClaimJoined
import GoSem.ClaimMapViews
import Derived.JoinedTies
import Derived.KernelRfl
namespace Go.Proofs.Ytdlfaoggjimbpaa
/- THE CELL 'sum', in the pinned program and in every row, IS THE sha256 OF THE DUMP (.gsa) THAT YtdlfaoggjimbpaaProg.lean LOADS. Nothing in Lean hashes anything: it is a label: what it is worth is what the hold of that sum in a sandbox is worth. -/
noncomputable def Try.pinned : Pinned := { name := "ytdlfaoggjimbpaa", sum := "ac8bcae5c8bce12b30a407e7c738e3773ae3162dd68b53950be26d2ff054a503", checked := Try.checked }
namespace Rows
def none {H : Type} : Left H := { results := [], args := [] }

/-- 'mailbaglaw1.CodecWrites': WHATEVER THE INPUT: true; the input reads as it did. -/
def codecWritesSpec : ChangeSpec := { name := "codecWrites", fn := fun _ => fun
  | [d] => { results := [.lit (.bool true)], args := [d] }
  | _ => none }
def codecWritesRow : OpenClaim := { program := "ytdlfaoggjimbpaa", sum := "ac8bcae5c8bce12b30a407e7c738e3773ae3162dd68b53950be26d2ff054a503", func := "mailbag/mailbaglaw1.CodecWrites", spec := "codecWrites", apart := false }
def CodecWritesSaid : Prop := codecWritesRow.holds Try.pinned (OpenSpec.ofChange codecWritesSpec)

/-- ITS FALSE NEIGHBOUR: 'it returns false'. Refute it at one input. -/
def codecWritesWrong : ChangeSpec := { name := "codecWrites", fn := fun _ => fun
  | [d] => { results := [.lit (.bool false)], args := [d] }
  | _ => none }
def CodecWritesWrongFalsely : Prop := codecWritesRow.holds Try.pinned (OpenSpec.ofChange codecWritesWrong)

/-- 'mailbaglaw1.CodecReads': WHATEVER THE INPUT: true; the input reads as it did. -/
def codecReadsSpec : ChangeSpec := { name := "codecReads", fn := fun _ => fun
  | [d1, d2] => { results := [.lit (.bool true)], args := [d1, d2] }
  | _ => none }
def codecReadsRow : OpenClaim := { program := "ytdlfaoggjimbpaa", sum := "ac8bcae5c8bce12b30a407e7c738e3773ae3162dd68b53950be26d2ff054a503", func := "mailbag/mailbaglaw1.CodecReads", spec := "codecReads", apart := false }
def CodecReadsSaid : Prop := codecReadsRow.holds Try.pinned (OpenSpec.ofChange codecReadsSpec)

/-- ITS FALSE NEIGHBOUR: 'it returns false'. Refute it at one input. -/
def codecReadsWrong : ChangeSpec := { name := "codecReads", fn := fun _ => fun
  | [d1, d2] => { results := [.lit (.bool false)], args := [d1, d2] }
  | _ => none }
def CodecReadsWrongFalsely : Prop := codecReadsRow.holds Try.pinned (OpenSpec.ofChange codecReadsWrong)

/-- 'mailbaglaw1.CodecBack': WHATEVER THE INPUT: true; the input reads as it did. -/
def codecBackSpec : ChangeSpec := { name := "codecBack", fn := fun _ => fun
  | [d] => { results := [.lit (.bool true)], args := [d] }
  | _ => none }
def codecBackRow : OpenClaim := { program := "ytdlfaoggjimbpaa", sum := "ac8bcae5c8bce12b30a407e7c738e3773ae3162dd68b53950be26d2ff054a503", func := "mailbag/mailbaglaw1.CodecBack", spec := "codecBack", apart := false }
def CodecBackSaid : Prop := codecBackRow.holds Try.pinned (OpenSpec.ofChange codecBackSpec)

/-- ITS FALSE NEIGHBOUR: 'it returns false'. Refute it at one input. -/
def codecBackWrong : ChangeSpec := { name := "codecBack", fn := fun _ => fun
  | [d] => { results := [.lit (.bool false)], args := [d] }
  | _ => none }
def CodecBackWrongFalsely : Prop := codecBackRow.holds Try.pinned (OpenSpec.ofChange codecBackWrong)

/-- 'mailbaglaw1.CodecFaults': WHATEVER THE INPUT: true; the input reads as it did. -/
def codecFaultsSpec : ChangeSpec := { name := "codecFaults", fn := fun _ => fun
  | [d1, d2, d3] => { results := [.lit (.bool true)], args := [d1, d2, d3] }
  | _ => none }
def codecFaultsRow : OpenClaim := { program := "ytdlfaoggjimbpaa", sum := "ac8bcae5c8bce12b30a407e7c738e3773ae3162dd68b53950be26d2ff054a503", func := "mailbag/mailbaglaw1.CodecFaults", spec := "codecFaults", apart := false }
def CodecFaultsSaid : Prop := codecFaultsRow.holds Try.pinned (OpenSpec.ofChange codecFaultsSpec)

/-- ITS FALSE NEIGHBOUR: 'it returns false'. Refute it at one input. -/
def codecFaultsWrong : ChangeSpec := { name := "codecFaults", fn := fun _ => fun
  | [d1, d2, d3] => { results := [.lit (.bool false)], args := [d1, d2, d3] }
  | _ => none }
def CodecFaultsWrongFalsely : Prop := codecFaultsRow.holds Try.pinned (OpenSpec.ofChange codecFaultsWrong)

/-- 'mailbaglaw1.CodecFixed': WHATEVER THE INPUT: true; the input reads as it did. -/
def codecFixedSpec : ChangeSpec := { name := "codecFixed", fn := fun _ => fun
  | [d1, d2, d3] => { results := [.lit (.bool true)], args := [d1, d2, d3] }
  | _ => none }
def codecFixedRow : OpenClaim := { program := "ytdlfaoggjimbpaa", sum := "ac8bcae5c8bce12b30a407e7c738e3773ae3162dd68b53950be26d2ff054a503", func := "mailbag/mailbaglaw1.CodecFixed", spec := "codecFixed", apart := false }
def CodecFixedSaid : Prop := codecFixedRow.holds Try.pinned (OpenSpec.ofChange codecFixedSpec)

/-- ITS FALSE NEIGHBOUR: 'it returns false'. Refute it at one input. -/
def codecFixedWrong : ChangeSpec := { name := "codecFixed", fn := fun _ => fun
  | [d1, d2, d3] => { results := [.lit (.bool false)], args := [d1, d2, d3] }
  | _ => none }
def CodecFixedWrongFalsely : Prop := codecFixedRow.holds Try.pinned (OpenSpec.ofChange codecFixedWrong)

/-- 'mailbaglaw1.CodecSeals': WHATEVER THE INPUT: true; the input reads as it did. -/
def codecSealsSpec : ChangeSpec := { name := "codecSeals", fn := fun _ => fun
  | [d1, d2, d3] => { results := [.lit (.bool true)], args := [d1, d2, d3] }
  | _ => none }
def codecSealsRow : OpenClaim := { program := "ytdlfaoggjimbpaa", sum := "ac8bcae5c8bce12b30a407e7c738e3773ae3162dd68b53950be26d2ff054a503", func := "mailbag/mailbaglaw1.CodecSeals", spec := "codecSeals", apart := false }
def CodecSealsSaid : Prop := codecSealsRow.holds Try.pinned (OpenSpec.ofChange codecSealsSpec)

/-- ITS FALSE NEIGHBOUR: 'it returns false'. Refute it at one input. -/
def codecSealsWrong : ChangeSpec := { name := "codecSeals", fn := fun _ => fun
  | [d1, d2, d3] => { results := [.lit (.bool false)], args := [d1, d2, d3] }
  | _ => none }
def CodecSealsWrongFalsely : Prop := codecSealsRow.holds Try.pinned (OpenSpec.ofChange codecSealsWrong)

/-- 'mailbaglaw7.InodeBits': WHATEVER THE INPUT: true; the input reads as it did. -/
def inodeBitsSpec : ChangeSpec := { name := "inodeBits", fn := fun _ => fun
  | [d1, d2, d3] => { results := [.lit (.bool true)], args := [d1, d2, d3] }
  | _ => none }
def inodeBitsRow : OpenClaim := { program := "ytdlfaoggjimbpaa", sum := "ac8bcae5c8bce12b30a407e7c738e3773ae3162dd68b53950be26d2ff054a503", func := "mailbag/mailbaglaw7.InodeBits", spec := "inodeBits", apart := false }
def InodeBitsSaid : Prop := inodeBitsRow.holds Try.pinned (OpenSpec.ofChange inodeBitsSpec)

/-- ITS FALSE NEIGHBOUR: 'it returns false'. Refute it at one input. -/
def inodeBitsWrong : ChangeSpec := { name := "inodeBits", fn := fun _ => fun
  | [d1, d2, d3] => { results := [.lit (.bool false)], args := [d1, d2, d3] }
  | _ => none }
def InodeBitsWrongFalsely : Prop := inodeBitsRow.holds Try.pinned (OpenSpec.ofChange inodeBitsWrong)

/-- 'mailbaglaw7.InodePlaces': WHATEVER THE INPUT: true; the input reads as it did. -/
def inodePlacesSpec : ChangeSpec := { name := "inodePlaces", fn := fun _ => fun
  | [d1, d2] => { results := [.lit (.bool true)], args := [d1, d2] }
  | _ => none }
def inodePlacesRow : OpenClaim := { program := "ytdlfaoggjimbpaa", sum := "ac8bcae5c8bce12b30a407e7c738e3773ae3162dd68b53950be26d2ff054a503", func := "mailbag/mailbaglaw7.InodePlaces", spec := "inodePlaces", apart := false }
def InodePlacesSaid : Prop := inodePlacesRow.holds Try.pinned (OpenSpec.ofChange inodePlacesSpec)

/-- ITS FALSE NEIGHBOUR: 'it returns false'. Refute it at one input. -/
def inodePlacesWrong : ChangeSpec := { name := "inodePlaces", fn := fun _ => fun
  | [d1, d2] => { results := [.lit (.bool false)], args := [d1, d2] }
  | _ => none }
def InodePlacesWrongFalsely : Prop := inodePlacesRow.holds Try.pinned (OpenSpec.ofChange inodePlacesWrong)

/-- 'mailbaglaw7.InodeGrows': WHATEVER THE INPUT: true; the input reads as it did. -/
def inodeGrowsSpec : ChangeSpec := { name := "inodeGrows", fn := fun _ => fun
  | [d1, d2] => { results := [.lit (.bool true)], args := [d1, d2] }
  | _ => none }
def inodeGrowsRow : OpenClaim := { program := "ytdlfaoggjimbpaa", sum := "ac8bcae5c8bce12b30a407e7c738e3773ae3162dd68b53950be26d2ff054a503", func := "mailbag/mailbaglaw7.InodeGrows", spec := "inodeGrows", apart := false }
def InodeGrowsSaid : Prop := inodeGrowsRow.holds Try.pinned (OpenSpec.ofChange inodeGrowsSpec)

/-- ITS FALSE NEIGHBOUR: 'it returns false'. Refute it at one input. -/
def inodeGrowsWrong : ChangeSpec := { name := "inodeGrows", fn := fun _ => fun
  | [d1, d2] => { results := [.lit (.bool false)], args := [d1, d2] }
  | _ => none }
def InodeGrowsWrongFalsely : Prop := inodeGrowsRow.holds Try.pinned (OpenSpec.ofChange inodeGrowsWrong)

/- THE SECOND FORM. 'bulk': how many values and letters a reading holds, each counted each time it is reached (what is shared counts as often as it is met; a slice's spare places count too). A statement '..UptoSaid' is the law's where the arguments, and the package variables that the reading takes, are together of bulk at most 1048576: NARROWER than '..Said'. Prove '..Said' where nothing that the law and all that it calls make is longer than what came in: it says more and counts as full. Else prove '..UptoSaid'. A law counts once. -/
mutual
def uptoBulk {H : Type} : DataW H → Nat
  | .lit (.string bytes) => bytes.length + 1
  | .lit _ => 1
  | .nil => 1
  | .ptr d => uptoBulk d + 1
  | .slice elems spare => uptoBulkAll elems + uptoBulkAll spare + 1
  | .agg parts => uptoBulkAll parts + 1
  | .iface _ d => uptoBulk d + 1
  | .map entries => uptoBulkEntries entries + 1
  | .held _ => 1
def uptoBulkAll {H : Type} : List (DataW H) → Nat
  | [] => 0
  | d :: r => uptoBulk d + uptoBulkAll r
def uptoBulkEntries {H : Type} : List (Lit × DataW H) → Nat
  | [] => 0
  | x :: r => uptoBulkEntry x + uptoBulkEntries r
def uptoBulkEntry {H : Type} : Lit × DataW H → Nat
  | (.string bytes, d) => bytes.length + uptoBulk d + 1
  | (_, d) => uptoBulk d + 1
 end
def uptoSmall : (H : Type) → List (DataW H) → Bool := fun _ ds => decide (uptoBulkAll ds ≤ 1048576)
def OpenSpec.upto (s : _root_.Go.ChangeSpec) : _root_.Go.OpenSpec := { _root_.Go.OpenSpec.ofChange s with cond := some uptoSmall }

/-- 'mailbaglaw1.CodecWrites', WHERE WHAT IT READS IS OF BULK AT MOST 1048576: true; the input reads as it did. -/
def codecWritesUptoRow : OpenClaim := { program := "ytdlfaoggjimbpaa", sum := "ac8bcae5c8bce12b30a407e7c738e3773ae3162dd68b53950be26d2ff054a503", func := "mailbag/mailbaglaw1.CodecWrites", spec := "codecWrites", apart := false, narrowed := true }
def CodecWritesUptoSaid : Prop := codecWritesUptoRow.holds Try.pinned (OpenSpec.upto codecWritesSpec)

/-- 'mailbaglaw1.CodecReads', WHERE WHAT IT READS IS OF BULK AT MOST 1048576: true; the input reads as it did. -/
def codecReadsUptoRow : OpenClaim := { program := "ytdlfaoggjimbpaa", sum := "ac8bcae5c8bce12b30a407e7c738e3773ae3162dd68b53950be26d2ff054a503", func := "mailbag/mailbaglaw1.CodecReads", spec := "codecReads", apart := false, narrowed := true }
def CodecReadsUptoSaid : Prop := codecReadsUptoRow.holds Try.pinned (OpenSpec.upto codecReadsSpec)

/-- 'mailbaglaw1.CodecBack', WHERE WHAT IT READS IS OF BULK AT MOST 1048576: true; the input reads as it did. -/
def codecBackUptoRow : OpenClaim := { program := "ytdlfaoggjimbpaa", sum := "ac8bcae5c8bce12b30a407e7c738e3773ae3162dd68b53950be26d2ff054a503", func := "mailbag/mailbaglaw1.CodecBack", spec := "codecBack", apart := false, narrowed := true }
def CodecBackUptoSaid : Prop := codecBackUptoRow.holds Try.pinned (OpenSpec.upto codecBackSpec)

/-- 'mailbaglaw1.CodecFaults', WHERE WHAT IT READS IS OF BULK AT MOST 1048576: true; the input reads as it did. -/
def codecFaultsUptoRow : OpenClaim := { program := "ytdlfaoggjimbpaa", sum := "ac8bcae5c8bce12b30a407e7c738e3773ae3162dd68b53950be26d2ff054a503", func := "mailbag/mailbaglaw1.CodecFaults", spec := "codecFaults", apart := false, narrowed := true }
def CodecFaultsUptoSaid : Prop := codecFaultsUptoRow.holds Try.pinned (OpenSpec.upto codecFaultsSpec)

/-- 'mailbaglaw1.CodecFixed', WHERE WHAT IT READS IS OF BULK AT MOST 1048576: true; the input reads as it did. -/
def codecFixedUptoRow : OpenClaim := { program := "ytdlfaoggjimbpaa", sum := "ac8bcae5c8bce12b30a407e7c738e3773ae3162dd68b53950be26d2ff054a503", func := "mailbag/mailbaglaw1.CodecFixed", spec := "codecFixed", apart := false, narrowed := true }
def CodecFixedUptoSaid : Prop := codecFixedUptoRow.holds Try.pinned (OpenSpec.upto codecFixedSpec)

/-- 'mailbaglaw1.CodecSeals', WHERE WHAT IT READS IS OF BULK AT MOST 1048576: true; the input reads as it did. -/
def codecSealsUptoRow : OpenClaim := { program := "ytdlfaoggjimbpaa", sum := "ac8bcae5c8bce12b30a407e7c738e3773ae3162dd68b53950be26d2ff054a503", func := "mailbag/mailbaglaw1.CodecSeals", spec := "codecSeals", apart := false, narrowed := true }
def CodecSealsUptoSaid : Prop := codecSealsUptoRow.holds Try.pinned (OpenSpec.upto codecSealsSpec)

/-- 'mailbaglaw7.InodeBits', WHERE WHAT IT READS IS OF BULK AT MOST 1048576: true; the input reads as it did. -/
def inodeBitsUptoRow : OpenClaim := { program := "ytdlfaoggjimbpaa", sum := "ac8bcae5c8bce12b30a407e7c738e3773ae3162dd68b53950be26d2ff054a503", func := "mailbag/mailbaglaw7.InodeBits", spec := "inodeBits", apart := false, narrowed := true }
def InodeBitsUptoSaid : Prop := inodeBitsUptoRow.holds Try.pinned (OpenSpec.upto inodeBitsSpec)

/-- 'mailbaglaw7.InodePlaces', WHERE WHAT IT READS IS OF BULK AT MOST 1048576: true; the input reads as it did. -/
def inodePlacesUptoRow : OpenClaim := { program := "ytdlfaoggjimbpaa", sum := "ac8bcae5c8bce12b30a407e7c738e3773ae3162dd68b53950be26d2ff054a503", func := "mailbag/mailbaglaw7.InodePlaces", spec := "inodePlaces", apart := false, narrowed := true }
def InodePlacesUptoSaid : Prop := inodePlacesUptoRow.holds Try.pinned (OpenSpec.upto inodePlacesSpec)

/-- 'mailbaglaw7.InodeGrows', WHERE WHAT IT READS IS OF BULK AT MOST 1048576: true; the input reads as it did. -/
def inodeGrowsUptoRow : OpenClaim := { program := "ytdlfaoggjimbpaa", sum := "ac8bcae5c8bce12b30a407e7c738e3773ae3162dd68b53950be26d2ff054a503", func := "mailbag/mailbaglaw7.InodeGrows", spec := "inodeGrows", apart := false, narrowed := true }
def InodeGrowsUptoSaid : Prop := inodeGrowsUptoRow.holds Try.pinned (OpenSpec.upto inodeGrowsSpec)

end Rows
end Go.Proofs.Ytdlfaoggjimbpaa
