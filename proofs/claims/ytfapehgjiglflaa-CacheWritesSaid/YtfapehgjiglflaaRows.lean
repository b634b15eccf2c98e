/-
  No cell of these rows narrows 'for every input' (looked for: loops, veiled, ifaces, maps, wideKeys, modest, calm, conditions, laid).
  DERIVED. THE GIVEN ROWS OF THIS SEAT. 6 by the template 'for every input the law returns true; each argument reads behind the call as it read before'; 0 by the template 'total and deterministic' (their statements: YtfapehgjiglflaaTotals.lean).
  GIVEN WITH THE SEED: the statements are not yours to turn. If you find one false, say at which input.
  Laid BY PROGRAM, IN A SANDBOX (cutbox-rows.mjs): the forced cells as the released guide's own fill.sh prints them over the translation 510735f2a2ab0c22… (all of the seat's roots in one cut). By AI agents, Wed Nov 11 2026. No macro, syntax, notation, axiom, sorry.
-/
import Derived.Test.YtfapehgjiglflaaChecked
import GoSem.Claim
import GoSem.ClaimJoined
import GoSem.ClaimMapViews
import Derived.JoinedTies
import Derived.KernelRfl
namespace Go.Proofs.Ytfapehgjiglflaa
/- THE CELL 'sum', in the pinned program and in every row, IS THE sha256 OF THE DUMP (.gsa) THAT YtfapehgjiglflaaProg.lean LOADS. Nothing in Lean hashes anything: it is a label: what it is worth is what the hold of that sum in a sandbox is worth. -/
noncomputable def Try.pinned : Pinned := { name := "ytfapehgjiglflaa", sum := "510735f2a2ab0c22c2b3319fadc173f4c85723d9f683a736dbc7df00ea1119b4", checked := Try.checked }
namespace Rows
def none {H : Type} : Left H := { results := [], args := [] }

/-- 'mailbaglaw3.CacheOrder': WHATEVER THE INPUT: true; the input reads as it did. -/
def cacheOrderSpec : ChangeSpec := { name := "cacheOrder", fn := fun _ => fun
  | [d1, d2] => { results := [.lit (.bool true)], args := [d1, d2] }
  | _ => none }
def cacheOrderRow : OpenClaim := { program := "ytfapehgjiglflaa", sum := "510735f2a2ab0c22c2b3319fadc173f4c85723d9f683a736dbc7df00ea1119b4", func := "mailbag/mailbaglaw3.CacheOrder", spec := "cacheOrder", unfollowed := true, recurses := true, apart := false }
def CacheOrderSaid : Prop := cacheOrderRow.holds Try.pinned (OpenSpec.ofChange cacheOrderSpec)

/-- ITS FALSE NEIGHBOUR: 'it returns false'. Refute it at one input. -/
def cacheOrderWrong : ChangeSpec := { name := "cacheOrder", fn := fun _ => fun
  | [d1, d2] => { results := [.lit (.bool false)], args := [d1, d2] }
  | _ => none }
def CacheOrderWrongFalsely : Prop := cacheOrderRow.holds Try.pinned (OpenSpec.ofChange cacheOrderWrong)

/-- 'mailbaglaw3.CachePins': WHATEVER THE INPUT: true; the input reads as it did. -/
def cachePinsSpec : ChangeSpec := { name := "cachePins", fn := fun _ => fun
  | [d1, d2, d3] => { results := [.lit (.bool true)], args := [d1, d2, d3] }
  | _ => none }
def cachePinsRow : OpenClaim := { program := "ytfapehgjiglflaa", sum := "510735f2a2ab0c22c2b3319fadc173f4c85723d9f683a736dbc7df00ea1119b4", func := "mailbag/mailbaglaw3.CachePins", spec := "cachePins", unfollowed := true, recurses := true, apart := false }
def CachePinsSaid : Prop := cachePinsRow.holds Try.pinned (OpenSpec.ofChange cachePinsSpec)

/-- ITS FALSE NEIGHBOUR: 'it returns false'. Refute it at one input. -/
def cachePinsWrong : ChangeSpec := { name := "cachePins", fn := fun _ => fun
  | [d1, d2, d3] => { results := [.lit (.bool false)], args := [d1, d2, d3] }
  | _ => none }
def CachePinsWrongFalsely : Prop := cachePinsRow.holds Try.pinned (OpenSpec.ofChange cachePinsWrong)

/-- 'mailbaglaw3.CacheLoses': WHATEVER THE INPUT: true; the input reads as it did. -/
def cacheLosesSpec : ChangeSpec := { name := "cacheLoses", fn := fun _ => fun
  | [d1, d2] => { results := [.lit (.bool true)], args := [d1, d2] }
  | _ => none }
def cacheLosesRow : OpenClaim := { program := "ytfapehgjiglflaa", sum := "510735f2a2ab0c22c2b3319fadc173f4c85723d9f683a736dbc7df00ea1119b4", func := "mailbag/mailbaglaw3.CacheLoses", spec := "cacheLoses", unfollowed := true, recurses := true, apart := false }
def CacheLosesSaid : Prop := cacheLosesRow.holds Try.pinned (OpenSpec.ofChange cacheLosesSpec)

/-- ITS FALSE NEIGHBOUR: 'it returns false'. Refute it at one input. -/
def cacheLosesWrong : ChangeSpec := { name := "cacheLoses", fn := fun _ => fun
  | [d1, d2] => { results := [.lit (.bool false)], args := [d1, d2] }
  | _ => none }
def CacheLosesWrongFalsely : Prop := cacheLosesRow.holds Try.pinned (OpenSpec.ofChange cacheLosesWrong)

/-- 'mailbaglaw3.CacheWrites': WHATEVER THE INPUT: true; the input reads as it did. -/
def cacheWritesSpec : ChangeSpec := { name := "cacheWrites", fn := fun _ => fun
  | [d1, d2, d3] => { results := [.lit (.bool true)], args := [d1, d2, d3] }
  | _ => none }
def cacheWritesRow : OpenClaim := { program := "ytfapehgjiglflaa", sum := "510735f2a2ab0c22c2b3319fadc173f4c85723d9f683a736dbc7df00ea1119b4", func := "mailbag/mailbaglaw3.CacheWrites", spec := "cacheWrites", unfollowed := true, recurses := true, apart := false }
def CacheWritesSaid : Prop := cacheWritesRow.holds Try.pinned (OpenSpec.ofChange cacheWritesSpec)

/-- ITS FALSE NEIGHBOUR: 'it returns false'. Refute it at one input. -/
def cacheWritesWrong : ChangeSpec := { name := "cacheWrites", fn := fun _ => fun
  | [d1, d2, d3] => { results := [.lit (.bool false)], args := [d1, d2, d3] }
  | _ => none }
def CacheWritesWrongFalsely : Prop := cacheWritesRow.holds Try.pinned (OpenSpec.ofChange cacheWritesWrong)

/-- 'mailbaglaw3.CacheReads': WHATEVER THE INPUT: true; the input reads as it did. -/
def cacheReadsSpec : ChangeSpec := { name := "cacheReads", fn := fun _ => fun
  | [d1, d2] => { results := [.lit (.bool true)], args := [d1, d2] }
  | _ => none }
def cacheReadsRow : OpenClaim := { program := "ytfapehgjiglflaa", sum := "510735f2a2ab0c22c2b3319fadc173f4c85723d9f683a736dbc7df00ea1119b4", func := "mailbag/mailbaglaw3.CacheReads", spec := "cacheReads", unfollowed := true, recurses := true, apart := false }
def CacheReadsSaid : Prop := cacheReadsRow.holds Try.pinned (OpenSpec.ofChange cacheReadsSpec)

/-- ITS FALSE NEIGHBOUR: 'it returns false'. Refute it at one input. -/
def cacheReadsWrong : ChangeSpec := { name := "cacheReads", fn := fun _ => fun
  | [d1, d2] => { results := [.lit (.bool false)], args := [d1, d2] }
  | _ => none }
def CacheReadsWrongFalsely : Prop := cacheReadsRow.holds Try.pinned (OpenSpec.ofChange cacheReadsWrong)

/-- 'mailbaglaw3.CachePlays': WHATEVER THE INPUT: true; the input reads as it did. -/
def cachePlaysSpec : ChangeSpec := { name := "cachePlays", fn := fun _ => fun
  | [d1, d2, d3] => { results := [.lit (.bool true)], args := [d1, d2, d3] }
  | _ => none }
def cachePlaysRow : OpenClaim := { program := "ytfapehgjiglflaa", sum := "510735f2a2ab0c22c2b3319fadc173f4c85723d9f683a736dbc7df00ea1119b4", func := "mailbag/mailbaglaw3.CachePlays", spec := "cachePlays", unfollowed := true, recurses := true, apart := false }
def CachePlaysSaid : Prop := cachePlaysRow.holds Try.pinned (OpenSpec.ofChange cachePlaysSpec)

/-- ITS FALSE NEIGHBOUR: 'it returns false'. Refute it at one input. -/
def cachePlaysWrong : ChangeSpec := { name := "cachePlays", fn := fun _ => fun
  | [d1, d2, d3] => { results := [.lit (.bool false)], args := [d1, d2, d3] }
  | _ => none }
def CachePlaysWrongFalsely : Prop := cachePlaysRow.holds Try.pinned (OpenSpec.ofChange cachePlaysWrong)

/- THE SECOND FORM. 'bulk': how many values and letters a reading holds, each counted each time it is reached (what is shared counts as often as it is met; a slice's spare places count too). A statement '..UptoSaid' is the law's where the arguments, and the package variables that the reading takes, are together of bulk at most 1048576: NARROWER than '..Said'. Prove '..Said' where nothing that the law and all that it calls make is longer than what came in: it says more and counts as full. Else prove '..UptoSaid'. A law counts once. -/
mutual
def uptoBulk {H : Type} : DataW H → Nat
  | .lit (.string bytes) => bytes.length + 1
  | .lit _ => 1
  | .nil => 1
  | .ptr d => uptoBulk d + 1
  | .slice elems spare => uptoBulkAll elems + uptoBulkAll spare + 1
  | .agg parts => uptoBulkAll parts + 1
  | .iface _ d => uptoBulk d + 1
  | .map entries => uptoBulkEntries entries + 1
  | .held _ => 1
def uptoBulkAll {H : Type} : List (DataW H) → Nat
  | [] => 0
  | d :: r => uptoBulk d + uptoBulkAll r
def uptoBulkEntries {H : Type} : List (Lit × DataW H) → Nat
  | [] => 0
  | x :: r => uptoBulkEntry x + uptoBulkEntries r
def uptoBulkEntry {H : Type} : Lit × DataW H → Nat
  | (.string bytes, d) => bytes.length + uptoBulk d + 1
  | (_, d) => uptoBulk d + 1
 end
def uptoSmall : (H : Type) → List (DataW H) → Bool := fun _ ds => decide (uptoBulkAll ds ≤ 1048576)
def OpenSpec.upto (s : _root_.Go.ChangeSpec) : _root_.Go.OpenSpec := { _root_.Go.OpenSpec.ofChange s with cond := some uptoSmall }

/-- 'mailbaglaw3.CacheOrder', WHERE WHAT IT READS IS OF BULK AT MOST 1048576: true; the input reads as it did. -/
def cacheOrderUptoRow : OpenClaim := { program := "ytfapehgjiglflaa", sum := "510735f2a2ab0c22c2b3319fadc173f4c85723d9f683a736dbc7df00ea1119b4", func := "mailbag/mailbaglaw3.CacheOrder", spec := "cacheOrder", unfollowed := true, recurses := true, apart := false, narrowed := true }
def CacheOrderUptoSaid : Prop := cacheOrderUptoRow.holds Try.pinned (OpenSpec.upto cacheOrderSpec)

/-- 'mailbaglaw3.CachePins', WHERE WHAT IT READS IS OF BULK AT MOST 1048576: true; the input reads as it did. -/
def cachePinsUptoRow : OpenClaim := { program := "ytfapehgjiglflaa", sum := "510735f2a2ab0c22c2b3319fadc173f4c85723d9f683a736dbc7df00ea1119b4", func := "mailbag/mailbaglaw3.CachePins", spec := "cachePins", unfollowed := true, recurses := true, apart := false, narrowed := true }
def CachePinsUptoSaid : Prop := cachePinsUptoRow.holds Try.pinned (OpenSpec.upto cachePinsSpec)

/-- 'mailbaglaw3.CacheLoses', WHERE WHAT IT READS IS OF BULK AT MOST 1048576: true; the input reads as it did. -/
def cacheLosesUptoRow : OpenClaim := { program := "ytfapehgjiglflaa", sum := "510735f2a2ab0c22c2b3319fadc173f4c85723d9f683a736dbc7df00ea1119b4", func := "mailbag/mailbaglaw3.CacheLoses", spec := "cacheLoses", unfollowed := true, recurses := true, apart := false, narrowed := true }
def CacheLosesUptoSaid : Prop := cacheLosesUptoRow.holds Try.pinned (OpenSpec.upto cacheLosesSpec)

/-- 'mailbaglaw3.CacheWrites', WHERE WHAT IT READS IS OF BULK AT MOST 1048576: true; the input reads as it did. -/
def cacheWritesUptoRow : OpenClaim := { program := "ytfapehgjiglflaa", sum := "510735f2a2ab0c22c2b3319fadc173f4c85723d9f683a736dbc7df00ea1119b4", func := "mailbag/mailbaglaw3.CacheWrites", spec := "cacheWrites", unfollowed := true, recurses := true, apart := false, narrowed := true }
def CacheWritesUptoSaid : Prop := cacheWritesUptoRow.holds Try.pinned (OpenSpec.upto cacheWritesSpec)

/-- 'mailbaglaw3.CacheReads', WHERE WHAT IT READS IS OF BULK AT MOST 1048576: true; the input reads as it did. -/
def cacheReadsUptoRow : OpenClaim := { program := "ytfapehgjiglflaa", sum := "510735f2a2ab0c22c2b3319fadc173f4c85723d9f683a736dbc7df00ea1119b4", func := "mailbag/mailbaglaw3.CacheReads", spec := "cacheReads", unfollowed := true, recurses := true, apart := false, narrowed := true }
def CacheReadsUptoSaid : Prop := cacheReadsUptoRow.holds Try.pinned (OpenSpec.upto cacheReadsSpec)

/-- 'mailbaglaw3.CachePlays', WHERE WHAT IT READS IS OF BULK AT MOST 1048576: true; the input reads as it did. -/
def cachePlaysUptoRow : OpenClaim := { program := "ytfapehgjiglflaa", sum := "510735f2a2ab0c22c2b3319fadc173f4c85723d9f683a736dbc7df00ea1119b4", func := "mailbag/mailbaglaw3.CachePlays", spec := "cachePlays", unfollowed := true, recurses := true, apart := false, narrowed := true }
def CachePlaysUptoSaid : Prop := cachePlaysUptoRow.holds Try.pinned (OpenSpec.upto cachePlaysSpec)

end Rows
end Go.Proofs.Ytfapehgjiglflaa
