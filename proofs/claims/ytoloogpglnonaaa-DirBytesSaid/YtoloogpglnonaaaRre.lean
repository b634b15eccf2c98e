import Derived.Test.YtoloogpglnonaaaRrd
namespace Go.Proofs.Ytoloogpglnonaaa
open Go.RowKit
def REndOut (w : World) (g : Nat) (b : Value) (bs : List UInt8) (p : Nat) (r : Int) (e : Ending) (w' : World) : Prop :=
  e = .returned (.int .i64 r) ∧ RRd w' g b bs p r ∧ Chg (fun k => k = g) w w'
theorem RFixOut.then_ {w w1 w2 : World} {g : Nat} {b : Value} {bs : List UInt8} {o : List UInt8 × List UInt8 × Int} {e : Ending} (h : Chg (fun k => k = g) w w1) (k : RFixOut w1 g b bs o e w2) : RFixOut w g b bs o e w2 := by
  obtain ⟨out, p, h1, h2, h3, h4, h5, h6⟩ := k
  exact ⟨out, p, h1, h2, h3, h4, h.trans h5, fun i hi => Nat.le_trans h.size (h6 i hi)⟩
end Go.Proofs.Ytoloogpglnonaaa
