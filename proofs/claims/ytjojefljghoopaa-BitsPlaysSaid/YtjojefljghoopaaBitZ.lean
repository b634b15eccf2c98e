import Derived.Test.YtjojefljghoopaaRkF
import Derived.Test.YtjojefljghoopaaBitY
namespace Go.Proofs.Ytjojefljghoopaa
open Go.ChangeShapes Go.WideShapes Go.Deep Go.RowKit
theorem open_acts {H : Type} {enc : TypeId × Value → H} {w : World} {base : Nat} {spare : Nat → Bool} {held : Bool} {fuel : Nat} {A : Option Addr} {len cap : Nat} {x : DataW H × List MemPlace}
    (h : DataW.trod enc Try.prog w base spare held fuel 38 [.slice A len cap] = some x) :
    ∃ ys : List Act5, ys.length = len ∧ len ≤ maxLen ∧ RdF 5 w (.slice A len cap) (ys.map Act5.row) ∧ ∀ a ∈ ys, a.ok := by
  obtain ⟨rows, h1, h2, h3, h4⟩ := open_rows Try.underlying38 Try.underlying40 (by kernel_rfl) (by kernel_rfl) h
  obtain ⟨al, rfl, ho⟩ := rows_of Act5.row Act5.ok rows (fun r hr => by
    obtain ⟨hl, hf⟩ := h4 r hr
    obtain ⟨n0, v0, y0, e0, t0⟩ := hf 0 _ rfl
    obtain ⟨n1, v1, y1, e1, t1⟩ := hf 1 _ rfl
    obtain ⟨n2, v2, y2, e2, t2⟩ := hf 2 _ rfl
    obtain ⟨n3, v3, y3, e3, t3⟩ := hf 3 _ rfl
    obtain ⟨n4, v4, y4, e4, t4⟩ := hf 4 _ rfl
    obtain ⟨z0, c0, _, w0⟩ := DataW.trod_int Try.underlying3 t0
    obtain ⟨z1, c1, _, w1⟩ := DataW.trod_int Try.underlying3 t1
    obtain ⟨z2, c2, _, w2⟩ := DataW.trod_int Try.underlying3 t2
    obtain ⟨z3, c3, _, w3⟩ := DataW.trod_int Try.underlying3 t3
    obtain ⟨z4, c4, _, w4⟩ := DataW.trod_int Try.underlying3 t4
    injection c0 with c0 _; injection c1 with c1 _; injection c2 with c2 _; injection c3 with c3 _; injection c4 with c4 _
    subst c0 c1 c2 c3 c4
    refine ⟨⟨z0, z1, z2, z3, z4⟩, ?_, ?_⟩
    · match r, hl with
      | [a0, a1, a2, a3, a4], _ =>
        simp at e0 e1 e2 e3 e4
        subst e0 e1 e2 e3 e4
        rfl
    · intro z hz
      simp at hz
      rcases hz with rfl | rfl | rfl | rfl | rfl <;> assumption)
  exact ⟨al, by rw [← h1, List.length_map], h2, h3, ho⟩
end Go.Proofs.Ytjojefljghoopaa
