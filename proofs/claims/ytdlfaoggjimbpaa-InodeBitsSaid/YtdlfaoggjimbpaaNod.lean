/- From a row's reading of a node (a struct with an array in it) to the walk's words. -/
import Derived.Test.YtdlfaoggjimbpaaRk
import Derived.Test.YtdlfaoggjimbpaaIbt
namespace Go.Proofs.Ytdlfaoggjimbpaa
open Go.ChangeShapes Go.WideShapes Go.ChangeAt Go.RowKit
theorem one_of {H : Type} {enc : TypeId × Value → H} {P : Program} {w : World} {base : Nat} {spare : Nat → Bool} {held : Bool} {m : Nat} {t : TypeId} {cs : List Value} {xs : List (DataW H × List MemPlace)} {i : Nat} (ht : P.underlying t = some (.int .i64)) (hi : i < xs.length)
    (h : DataW.trod enc P w base spare held m t cs = xs[i]?) : ∃ n, cs = [.int .i64 n] := by
  rw [List.getElem?_eq_getElem hi] at h
  obtain ⟨n, e, _⟩ := DataW.trod_int ht h
  exact ⟨n, e⟩
theorem open_node {H : Type} {enc : TypeId × Value → H} {w : World} {base : Nat} {spare : Nat → Bool} {held : Bool} {fuel : Nat} {cs : Array Value} {x : DataW H × List MemPlace} (hs : cs.size = 13)
    (h : DataW.trod enc Try.prog w base spare held fuel 65 cs.toList = some x) : ∃ n : Nd, cs = n.cells := by
  obtain ⟨l⟩ := cs
  have hl : l.length = 13 := by simpa using hs
  match l, hl with
  | [c0, c1, c2, c3, c4, c5, c6, c7, c8, c9, c10, c11, c12], _ =>
    obtain ⟨xs, m, _, _, _, hxl, hf⟩ := DataW.trod_struct Try.underlying65 h
    have hxl : xs.length = 6 := hxl
    obtain ⟨k0, e0⟩ := one_of Try.underlying3 (by omega) (hf 0 _ rfl)
    obtain ⟨k1, e1⟩ := one_of Try.underlying3 (by omega) (hf 1 _ rfl)
    obtain ⟨k2, e2⟩ := one_of Try.underlying3 (by omega) (hf 2 _ rfl)
    obtain ⟨k4, e4⟩ := one_of Try.underlying3 (by omega) (hf 4 _ rfl)
    obtain ⟨k5, e5⟩ := one_of Try.underlying3 (by omega) (hf 5 _ rfl)
    have ha := hf 3 _ rfl
    rw [List.getElem?_eq_getElem (by omega)] at ha
    obtain ⟨ys, m2, _, _, _, hyl, hg⟩ := DataW.trod_array Try.underlying63 ha
    obtain ⟨d0, f0⟩ := one_of Try.underlying3 (by omega) (hg 0 (by omega))
    obtain ⟨d1, f1⟩ := one_of Try.underlying3 (by omega) (hg 1 (by omega))
    obtain ⟨d2, f2⟩ := one_of Try.underlying3 (by omega) (hg 2 (by omega))
    obtain ⟨d3, f3⟩ := one_of Try.underlying3 (by omega) (hg 3 (by omega))
    obtain ⟨d4, f4⟩ := one_of Try.underlying3 (by omega) (hg 4 (by omega))
    obtain ⟨d5, f5⟩ := one_of Try.underlying3 (by omega) (hg 5 (by omega))
    obtain ⟨d6, f6⟩ := one_of Try.underlying3 (by omega) (hg 6 (by omega))
    obtain ⟨d7, f7⟩ := one_of Try.underlying3 (by omega) (hg 7 (by omega))
    have ci : Try.prog.cellsOf 3 = 1 := by kernel_rfl
    have ca : Try.prog.cellsOf 63 = 8 := by kernel_rfl
    simp [ci, ca] at e0 e1 e2 e4 e5 f0 f1 f2 f3 f4 f5 f6 f7
    subst e0 e1 e2 e4 e5 f0 f1 f2 f3 f4 f5 f6 f7
    exact ⟨⟨k0, k1, k2, d0, d1, d2, d3, d4, d5, d6, d7, k4, k5⟩, rfl⟩
end Go.Proofs.Ytdlfaoggjimbpaa
