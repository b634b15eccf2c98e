import Derived.Test.YtdlfaoggjimbpaaRkF
import Derived.Test.YtdlfaoggjimbpaaRk
import Derived.Test.YtdlfaoggjimbpaaFew
namespace Go.Proofs.Ytdlfaoggjimbpaa
open Go.ChangeShapes Go.WideShapes Go.Deep Go.RowKit
def prow (x : Put3 × Value) : List Value := [.int .i64 x.1.kind, .int .i64 x.1.n, x.2]
def pok (w : World) (x : Put3 × Value) : Prop := x.1.bs.length ≤ 9223372036854775807 ∧ (Lit.int .i64 x.1.kind).wf = true ∧ (Lit.int .i64 x.1.n).wf = true ∧ Rd w x.2 (bvs x.1.bs)
theorem open_puts {H : Type} {enc : TypeId × Value → H} {w : World} {base : Nat} {spare : Nat → Bool} {held : Bool} {fuel : Nat} {A : Option Addr} {len cap : Nat} {x : DataW H × List MemPlace} (hsp : spare = fun _ => true)
    (h : DataW.trod enc Try.prog w base spare held fuel 22 [.slice A len cap] = some x) :
    ∃ ys : List Put3, ys.length = len ∧ len ≤ maxLen ∧ RdP w (.slice A len cap) ys ∧ ∀ k (h : k < ys.length), ys[k].bs.length ≤ 9223372036854775807 ∧ (Lit.int .i64 ys[k].kind).wf = true ∧ (Lit.int .i64 ys[k].n).wf = true := by
  obtain ⟨rows, h1, h2, h3, h4⟩ := open_rows Try.underlying22 Try.underlying32 (by kernel_rfl) (by kernel_rfl) h
  obtain ⟨al, rfl, ho⟩ := rows_of prow (pok w) rows (fun r hr => by
    obtain ⟨hl, hf⟩ := h4 r hr
    obtain ⟨n0, v0, y0, e0, t0⟩ := hf 0 _ rfl
    obtain ⟨n1, v1, y1, e1, t1⟩ := hf 1 _ rfl
    obtain ⟨n2, v2, y2, e2, t2⟩ := hf 2 _ rfl
    obtain ⟨z0, c0, _, w0⟩ := DataW.trod_int Try.underlying3 t0
    obtain ⟨z1, c1, _, w1⟩ := DataW.trod_int Try.underlying3 t1
    injection c0 with c0 _; injection c1 with c1 _
    subst c0 c1
    obtain ⟨bs, hb, hrd⟩ : ∃ bs : List UInt8, bs.length ≤ 9223372036854775807 ∧ Rd w v2 (bvs bs) := by
      subst hsp
      rcases open_ints Try.underlying28 Try.underlying5 (by kernel_rfl) t2 with ⟨hcs, _⟩ | ⟨a, l, c, zs, hcs, _, hl, hm, hz, _, hcell, hwz⟩
      · injection hcs with hcs _
        subst hcs
        exact ⟨[], Nat.zero_le _, Rd.nil _ _ _⟩
      · injection hcs with hcs _
        subst hcs
        obtain ⟨bs, q1, q2, q3⟩ := IsRow.bytes (w := w) (a := some a) (len := l) (cap := c) (zs := zs) (.inr ⟨_, rfl, hl, hm, by simpa using hz, hcell, hwz⟩)
        exact ⟨bs, by rw [q1]; exact q2, q3⟩
    refine ⟨(⟨z0, z1, bs⟩, v2), ?_, hb, w0, w1, hrd⟩
    match r, hl with
    | [a0, a1, a2], _ =>
      simp at e0 e1 e2
      subst e0 e1 e2
      rfl)
  have hk : ∀ k (h : k < al.length), pok w al[k] := fun k h => ho _ (List.getElem_mem h)
  refine ⟨al.map Prod.fst, by rw [← h1]; simp, h2, ⟨fun i => (al[i]?.getD (⟨0, 0, []⟩, undef)).2, ?_, fun i hi => ?_⟩, fun k h => ?_⟩
  · have e : ((List.range (al.map Prod.fst).length).map fun i => [Value.int .i64 (((al.map Prod.fst)[i]?.getD ⟨0, 0, []⟩).kind), .int .i64 (((al.map Prod.fst)[i]?.getD ⟨0, 0, []⟩).n), (al[i]?.getD (⟨0, 0, []⟩, undef)).2]) = al.map prow := by
      apply List.ext_getElem
      · simp
      · intro j q1 q2
        have hj : j < al.length := by simpa using q1
        simp [hj, prow]
    rw [e]
    exact h3
  · have hj : i < al.length := by simpa using hi
    have := (hk i hj).2.2.2
    simpa [hj] using this
  · have hj : k < al.length := by simpa using h
    have := hk k hj
    simp only [List.getElem_map]
    exact ⟨this.1, this.2.1, this.2.2.1⟩
end Go.Proofs.Ytdlfaoggjimbpaa
