import Derived.Test.YtoloogpglnonaaaKn1
import Derived.Test.YtoloogpglnonaaaStr
import Derived.Deep.QuietTactic
import Derived.BigQuiet
namespace Go.Proofs.Ytoloogpglnonaaa
open Go.RowKit
/-- An ask of a reader: its kind, its number. -/
structure Ask2 where
  (kind n : Int)
def Ask2.row (x : Ask2) : List Value := [.int .i64 x.kind, .int .i64 x.n]
def Ask2.ok (x : Ask2) : Prop := (Lit.int .i64 x.kind).wf = true ∧ (Lit.int .i64 x.n).wf = true

theorem quiet_here {P : Program} {f : FuncId} {args : Array Value} {w : World} {n : Nat} {v : Value} (h : ∀ n, Hid (Calls P f args (w.drewN n) fun e w' => e = .returned v ∧ w.drewN n = w')) :
    Calls P f args (w.drewN n) fun e w'' => e = .returned v ∧ ∃ m, w'' = w.drewN m := (h n).out.mono fun _ _ ⟨he, hm⟩ => ⟨he, n, hm.symm⟩
theorem add_cell {w : World} {ad : Addr} {j : Nat} {v : Value} (h : w.cell? (ad.add (j + 1)) = some v) : w.cell? ⟨ad.block, ad.off + (j + 1), none⟩ = some v := by simpa [Addr.add] using h
theorem Rdr.drewN {w : World} {g : Nat} {b : Value} {rs : List UInt8} {err : Int} (h : Rdr w g b rs err) (n : Nat) : Rdr (w.drewN n) g b rs err := ⟨h.blk.drewN n, h.rd.drewN n, h.ne⟩
theorem below_drewN {B : Nat} {w w' : World} (h : Below B w w') (n : Nat) : Below B w (w'.drewN n) := ⟨h.os, h.tape, h.output, h.size, h.block⟩
theorem takeP_err (rs : List UInt8) (err n : Int) (h : err ≠ 0) : takeP rs err n = ([], rs, err) := by unfold takeP; rw [if_pos h]
theorem bytesP_err (rs : List UInt8) (err n : Int) (h : err ≠ 0) : bytesP rs err n = ([], rs, err) := by
  unfold bytesP
  rw [takeP_err rs err 4 h]
  simp only [h, false_and, if_false]
  exact takeP_err rs err _ h

end Go.Proofs.Ytoloogpglnonaaa
