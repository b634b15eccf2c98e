/- From a row's reading of an entry (a string and an int) to the walk's words. -/
import Derived.Test.YtoloogpglnonaaaRk
import Derived.Test.YtoloogpglnonaaaDz
import Derived.ChangeArms
namespace Go.Proofs.Ytoloogpglnonaaa
open Go.ChangeShapes Go.WideShapes Go.ChangeAt Go.RowKit
theorem open_ent {H : Type} {enc : TypeId × Value → H} {w : World} {base : Nat} {spare : Nat → Bool} {held : Bool} {fuel : Nat} {cs : Array Value} {x : DataW H × List MemPlace} (hs : cs.size = 2)
    (h : DataW.trod enc Try.prog w base spare held fuel 43 cs.toList = some x) : ∃ n : Ent, cs = n.cells ∧ n.name.length ≤ 9223372036854775807 ∧ (Lit.int .i64 n.ino).wf = true := by
  obtain ⟨l⟩ := cs
  have hl : l.length = 2 := by simpa using hs
  match l, hl with
  | [c0, c1], _ =>
    obtain ⟨xs, m, _, _, _, hxl, hf⟩ := DataW.trod_struct Try.underlying43 h
    have hxl : xs.length = 2 := hxl
    have h0 := hf 0 _ rfl
    have h1 := hf 1 _ rfl
    rw [List.getElem?_eq_getElem (by omega)] at h0 h1
    obtain ⟨s, e0, _, hsz⟩ := DataW.trod_string Try.underlying9 h0
    obtain ⟨n, e1, _, hw⟩ := DataW.trod_int Try.underlying3 h1
    have ci : Try.prog.cellsOf 3 = 1 := by kernel_rfl
    have ca : Try.prog.cellsOf 9 = 1 := by kernel_rfl
    obtain ⟨⟨sl⟩⟩ := s
    simp [ci, ca] at e0 e1
    subst e0 e1
    exact ⟨⟨sl, n⟩, rfl, hsz, hw⟩
end Go.Proofs.Ytoloogpglnonaaa
