/- From a row's reading of a slice of acts to its elements. -/
import Derived.Test.YtfapehgjiglflaaRkF
import Derived.Test.YtfapehgjiglflaaRkY
import Derived.Deep.Slices
import Derived.Test.YtfapehgjiglflaaCac
namespace Go.Proofs.Ytfapehgjiglflaa
open Go.ChangeShapes Go.WideShapes Go.Deep Go.RowKit
theorem open_bytes1 {H : Type} {enc : TypeId × Value → H} {w : World} {base : Nat} {held : Bool} {fuel : Nat} {v : Value} {x : DataW H × List MemPlace}
    (h : DataW.trod enc Try.prog w base (fun _ => true) held fuel 31 [v] = some x) : ∃ bs : List UInt8, bs.length ≤ 9223372036854775807 ∧ Rd w v (bvs bs) := by
  rcases open_ints Try.underlying31 Try.underlying5 (by kernel_rfl) h with ⟨hcs, _⟩ | ⟨a, l, c, zs, hcs, _, hl, hm, hz, _, hcell, hwz⟩
  · injection hcs with hcs _
    subst hcs
    exact ⟨[], Nat.zero_le _, Rd.nil _ _ _⟩
  · injection hcs with hcs _
    subst hcs
    obtain ⟨bs, q1, q2, q3⟩ := IsRow.bytes (w := w) (a := some a) (len := l) (cap := c) (zs := zs) (.inr ⟨_, rfl, hl, hm, by simpa using hz, hcell, hwz⟩)
    exact ⟨bs, by rw [q1]; exact q2, q3⟩
theorem open_ints1 {H : Type} {enc : TypeId × Value → H} {w : World} {base : Nat} {held : Bool} {fuel : Nat} {v : Value} {x : DataW H × List MemPlace}
    (h : DataW.trod enc Try.prog w base (fun _ => true) held fuel 22 [v] = some x) : ∃ ys : List Int, ys.length ≤ 9223372036854775807 ∧ Rd w v (ivs ys) := by
  rcases open_ints Try.underlying22 Try.underlying3 (by kernel_rfl) h with ⟨hcs, _⟩ | ⟨a, l, c, zs, hcs, _, hl, hm, hz, _, hcell, hwz⟩
  · injection hcs with hcs _
    subst hcs
    exact ⟨[], Nat.zero_le _, Rd.nil _ _ _⟩
  · injection hcs with hcs _
    subst hcs
    obtain ⟨ys, q1, q2, q3, _⟩ := IsRow.ints (w := w) (a := some a) (len := l) (cap := c) (zs := zs) (.inr ⟨_, rfl, hl, hm, by simpa using hz, hcell, hwz⟩)
    exact ⟨ys, by rw [q1]; exact q2, q3⟩
theorem open_acts {H : Type} {enc : TypeId × Value → H} {w : World} {base : Nat} {fuel : Nat} {A : Option Addr} {len cap : Nat} {x : DataW H × List MemPlace} {held : Bool}
    (h : DataW.trod enc Try.prog w base (fun _ => true) held fuel 46 [.slice A len cap] = some x) :
    ∃ ys : List ActV, ys.length = len ∧ len ≤ maxLen ∧ RdA w (.slice A len cap) ys := by
  obtain ⟨rows, h1, h2, h3, h4⟩ := open_rows Try.underlying46 Try.underlying50 (by kernel_rfl) (by kernel_rfl) h
  obtain ⟨al, rfl, ho⟩ := rows_of ActV.row (ActV.ok w) rows (fun r hr => by
    obtain ⟨hl, hf⟩ := h4 r hr
    obtain ⟨n0, v0, y0, e0, t0⟩ := hf 0 _ rfl
    obtain ⟨n1, v1, y1, e1, t1⟩ := hf 1 _ rfl
    obtain ⟨n2, v2, y2, e2, t2⟩ := hf 2 _ rfl
    obtain ⟨n3, v3, y3, e3, t3⟩ := hf 3 _ rfl
    obtain ⟨z0, c0, _, w0⟩ := DataW.trod_int Try.underlying3 t0
    obtain ⟨z1, c1, _, w1⟩ := DataW.trod_int Try.underlying3 t1
    injection c0 with c0 _; injection c1 with c1 _
    subst c0 c1
    obtain ⟨bs, hb, hrd⟩ := open_bytes1 t2
    obtain ⟨ys, hy, hrp⟩ := open_ints1 t3
    refine ⟨⟨z0, z1, v2, bs, v3, ys⟩, ?_, hrd, hrp, hb, hy, w0, w1⟩
    match r, hl with
    | [a0, a1, a2, a3], _ =>
      simp at e0 e1 e2 e3
      subst e0 e1 e2 e3
      rfl)
  exact ⟨al, by rw [← h1]; simp, h2, h3, ho⟩
end Go.Proofs.Ytfapehgjiglflaa
