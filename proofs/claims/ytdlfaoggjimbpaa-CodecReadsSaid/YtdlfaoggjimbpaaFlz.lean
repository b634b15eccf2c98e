import Derived.Test.YtdlfaoggjimbpaaRkF
import Derived.Test.YtdlfaoggjimbpaaFlt
namespace Go.Proofs.Ytdlfaoggjimbpaa
open Go.ChangeShapes Go.WideShapes Go.Deep Go.RowKit
theorem open_asks {H : Type} {enc : TypeId × Value → H} {w : World} {base : Nat} {spare : Nat → Bool} {held : Bool} {fuel : Nat} {A : Option Addr} {len cap : Nat} {x : DataW H × List MemPlace}
    (h : DataW.trod enc Try.prog w base spare held fuel 38 [.slice A len cap] = some x) :
    ∃ ys : List Ask2, ys.length = len ∧ len ≤ maxLen ∧ RdF 2 w (.slice A len cap) (ys.map Ask2.row) ∧ ∀ a ∈ ys, a.ok := by
  obtain ⟨rows, h1, h2, h3, h4⟩ := open_rows Try.underlying38 Try.underlying45 (by kernel_rfl) (by kernel_rfl) h
  obtain ⟨al, rfl, ho⟩ := rows_of Ask2.row Ask2.ok rows (fun r hr => by
    obtain ⟨hl, hf⟩ := h4 r hr
    obtain ⟨n0, v0, y0, e0, t0⟩ := hf 0 _ rfl
    obtain ⟨n1, v1, y1, e1, t1⟩ := hf 1 _ rfl
    obtain ⟨z0, c0, _, w0⟩ := DataW.trod_int Try.underlying3 t0
    obtain ⟨z1, c1, _, w1⟩ := DataW.trod_int Try.underlying3 t1
    injection c0 with c0 _; injection c1 with c1 _
    subst c0 c1
    refine ⟨⟨z0, z1⟩, ?_, w0, w1⟩
    match r, hl with
    | [a0, a1], _ =>
      simp at e0 e1
      subst e0 e1
      rfl)
  exact ⟨al, by rw [← h1, List.length_map], h2, h3, ho⟩
end Go.Proofs.Ytdlfaoggjimbpaa
