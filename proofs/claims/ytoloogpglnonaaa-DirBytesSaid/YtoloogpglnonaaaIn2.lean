/- Where the number of a block stands. -/
import Derived.Test.YtoloogpglnonaaaIn1
namespace Go.Proofs.Ytoloogpglnonaaa
open Go.RowKit
def whereP (i : Int) : Int × Int × Int × Int :=
  if i < 0 ∨ 16520 ≤ i then (0, 0, 0, 1) else if i < 8 then (0, i, 0, 0) else if i < 136 then (1, i - 8, 0, 0) else (2, (i - 136) / 128, (i - 136) % 128, 0)
def placeV (o : Int × Int × Int × Int) : Value := .agg #[.int .i64 o.1, .int .i64 o.2.1, .int .i64 o.2.2.1]
def WhOut (w : World) (o : Int × Int × Int × Int) (e : Ending) (w' : World) : Prop := e = .returned (.tuple #[placeV o, .int .i64 o.2.2.2]) ∧ Below w.heap.size w w'
theorem loadVar_blk {P : Program} {w : World} {g ty : Nat} {cs : Array Value} {d : TypeDesc} (hb : Blk w g ty cs) (hu : P.underlying ty = some d) (hd : d.isRow = true) (hi : (P.info? ty).map (·.size) = some cs.size) :
    (loadVar ty ⟨g, 0, none⟩).run P w = .ok (.agg cs) w := by
  have h := run_loadAt_cells (P := P) w ⟨g, 0, none⟩ ty cs.toList d (fun j u hu => by
    rw [addr_add_at, hb.cell]
    simpa using hu) hu hd (by simpa using hi)
  simpa [Instr.loadAt, Instr.sureAddr] using h
theorem results_cell_tmp {fn : Func} {t u : Tmp} {ty : TypeId} {P : Program} {w : World} {tmps : Array Value} {ad : Addr} {v : Value} (h : fn.results = #[.cell t ty, .tmp u]) (ht : tmps.getD t undef = .pointer (some ad)) (hl : (loadVar ty ad).run P w = .ok v w) :
    (results fn tmps).run P w = .ok (.tuple #[v, tmps.getD u undef]) w := by
  have ht' : tmps[t]?.getD undef = .pointer (some ad) := by simpa using ht
  simp [results, h, ht', asAddr, Sem.run_bind, hl]
end Go.Proofs.Ytoloogpglnonaaa
