/-
  A slice of structs of one-cell fields: its rows' cells.
-/
import Derived.Test.YtefbmbfhhhjgkaaMem
import Derived.Deep.MidRow
namespace Go.Proofs.Ytefbmbfhhhjgkaa
open Go.RowKit
/-- The slice holds the rows, m cells each. -/
def RdF (m : Nat) (w : World) (v : Value) (rows : List (List Value)) : Prop :=
  ∃ A c, v = .slice A rows.length c ∧ (rows ≠ [] → ∃ ad, A = some ad ∧ ∀ (i : Nat) r j u, rows[i]? = some r → r[j]? = some u → w.cell? (ad.add (i * m + j)) = some u)
namespace RdF
variable {m : Nat} {w w' : World} {v : Value} {rows : List (List Value)}
theorem below (h : RdF m w v rows) (hb : Below w.heap.size w w') : RdF m w' v rows := by
  obtain ⟨A, c, rfl, hr⟩ := h
  refine ⟨A, c, rfl, fun hne => ?_⟩
  obtain ⟨ad, rfl, hc⟩ := hr hne
  refine ⟨ad, rfl, fun i r j u hi hj => ?_⟩
  have hc1 := hc i r j u hi hj
  rw [World.cell?_of_block (w := w)]
  · exact hc1
  · exact hb.block _ (World.block_lt_of_cell? w _ hc1)
theorem shape (h : RdF m w v rows) : ∃ A c, v = .slice A rows.length c := by
  obtain ⟨A, c, rfl, _⟩ := h
  exact ⟨A, c, rfl⟩
theorem at_ {A : Option Addr} {n c : Nat} (h : RdF m w (.slice A n c) rows) {k : Nat} (hk : k < rows.length) : ∃ ad, A = some ad ∧ ∀ j u, rows[k][j]? = some u → w.cell? ((ad.add (k * m)).add j) = some u := by
  obtain ⟨A', c', e, hr⟩ := h
  injection e with e1 _ _
  subst e1
  obtain ⟨ad, rfl, hc⟩ := hr (by intro e; rw [e] at hk; simp at hk)
  refine ⟨ad, rfl, fun j u hu => ?_⟩
  rw [addr_add_add]
  exact hc k _ j u (List.getElem?_eq_getElem hk) hu
end RdF
/-- The load of a struct whose cells are known. -/
theorem run_loadAt_cells {P : Program} (w : World) (ad : Addr) (ty : TypeId) (cs : List Value) (d : TypeDesc) (hc : ∀ j u, cs[j]? = some u → w.cell? (ad.add j) = some u)
    (hu : P.underlying ty = some d) (hd : d.isRow = true) (hi : (P.info? ty).map (·.size) = some cs.length) : (Instr.loadAt ty (.pointer (some ad))).run P w = .ok (.agg cs.toArray) w := by
  have hl : (loadCells ad cs.length).run P w = .ok cs.toArray w := run_loadCells_list (P := P) w ad cs hc
  have hv : (loadVar ty ad).run P w = .ok (.agg cs.toArray) w := by
    cases hq : P.info? ty with
    | none => simp [hq] at hi
    | some i =>
      have hs : i.size = cs.length := by simpa [hq] using hi
      have hagg : (isAgg ty).run P w = .ok true w := by
        unfold isAgg
        rw [Sem.run_bind, run_underlying hu w]
        cases d <;> simp_all
      simp [loadVar, Sem.run_bind, hagg, sizeOf, typeInfo, hq, hs, hl]
  simp only [Instr.loadAt, Instr.sureAddr, Sem.run_bind, Sem.run_pure, Result.andThen_ok, hv]
theorem wpList_load_cells {P : Program} {ops : Array Oper} {rest : List Oper} {op : Oper} {a : Act} {w : World} {Q : Exit → Act → World → Prop} (hgd : op.guard = none) {ty : TypeId} {x : Operand} (ho : op.op = .load ty x)
    {ad : Addr} (hx : a.eval x = .pointer (some ad)) {v : Value} (hl : (Instr.loadAt ty (.pointer (some ad))).run P w = .ok v w)
    (h : wpList P ops Q rest (a.put op.dst v) w) : wpList P ops Q (op :: rest) a w :=
  wpList_plain hgd fun _ hK => by
    unfold Oper.wp execOp
    simp only [ho, hx, Sem.run_bind, hl, Result.andThen_ok, Sem.run_pure]
    exact hK _ _ h
theorem stop_load {P : Program} (t : TypeId) {w : World} {ops : Array Oper} {rest : List Oper} {dst : Option Tmp} {ty : TypeId} {pos : String} {after : Array Edge} {g : Option (Nat × Bool)} {a : Act} {Q : Exit → Act → World → Prop} {x : Operand}
    (h : Stop (wpList P ops Q (⟨dst, .load t x, ty, pos, after, g⟩ :: rest) a w)) : wpList P ops Q (⟨dst, .load t x, ty, pos, after, g⟩ :: rest) a w := h
end Go.Proofs.Ytefbmbfhhhjgkaa
