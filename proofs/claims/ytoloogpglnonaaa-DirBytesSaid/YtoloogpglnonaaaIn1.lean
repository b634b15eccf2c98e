/- The numbers of package inode and of the document's own: what each function answers. -/
import Derived.Test.YtoloogpglnonaaaSls
namespace Go.Proofs.Ytoloogpglnonaaa
open Go.RowKit
def Ans (w : World) (v : Value) (e : Ending) (w' : World) : Prop := e = .returned v ∧ w = w'
def blocksP (s : Int) : Int := if s < 0 ∨ 8458240 < s then 0 else (s + 511) / 512
def innerP (n : Int) : Int := if n ≤ 8 then 0 else if n ≤ 136 then 1 else 2 + (n - 9) / 128
def allN (s : Int) : Int := blocksP s + innerP (blocksP s)
theorem blocksP_in (s : Int) : 0 ≤ blocksP s ∧ blocksP s ≤ 16520 := by
  unfold blocksP
  split <;> omega
theorem innerP_in (n : Int) (h : n ≤ 16520) : 0 ≤ innerP n ∧ innerP n ≤ 131 := by
  unfold innerP
  split
  · omega
  · split <;> omega
end Go.Proofs.Ytoloogpglnonaaa
