/- From a row's reading of a slice of bools to its elements. -/
import Derived.Test.YtefbmbfhhhjgkaaRkY
import Derived.Deep.Slices
namespace Go.Proofs.Ytefbmbfhhhjgkaa
open Go.ChangeShapes Go.WideShapes Go.Deep Go.RowKit
theorem open_boolr {H : Type} {enc : TypeId × Value → H} {w : World} {base : Nat} {held : Bool} {fuel : Nat} {A : Option Addr} {len cap : Nat} {x : DataW H × List MemPlace}
    (h : DataW.trod enc Try.prog w base (fun _ => true) held fuel 34 [.slice A len cap] = some x) :
    ∃ ys : List Bool, ys.length = len ∧ len ≤ maxLen ∧ Rd w (.slice A len cap) (ys.map Value.bool) := by
  rcases open_slice1 Try.underlying34 (by kernel_rfl) h with ⟨h0, _⟩ | ⟨a, len', cap', m, n, V, D, Pl, hcs, hb, hl, hm, hmm, _, hi⟩
  · injection h0 with h0 _
    injection h0 with e1 e2 e3
    subst e1 e2 e3
    exact ⟨[], rfl, Nat.zero_le _, Rd.nil _ _ _⟩
  · injection hcs with hcs _
    injection hcs with e1 e2 e3
    subst e1 e2 e3
    have hle : len ≤ m := by rw [hmm, if_pos rfl]; exact hl
    obtain ⟨B, hB⟩ := choose_lt (α := Bool) (n := len) (p := fun i b => V i = .bool b) (fun i him => by
      obtain ⟨b, h1, _⟩ := DataW.trod_bool Try.underlying4 (hi i (by omega)).2
      exact ⟨b, by simpa using h1⟩)
    refine ⟨(List.range len).map B, by simp, by omega, ⟨some a, cap, by simp, by simpa using hl, fun _ => ⟨a, rfl, fun j u hu => ?_⟩⟩⟩
    rw [List.map_map, List.getElem?_map] at hu
    rcases Nat.lt_or_ge j len with hlt | hge
    · rw [List.getElem?_range hlt] at hu
      cases hu
      show w.cell? _ = some (.bool (B j))
      rw [← hB j hlt]
      exact (hi j (by omega)).1
    · rw [List.getElem?_eq_none (by simpa using hge)] at hu; cases hu
end Go.Proofs.Ytefbmbfhhhjgkaa
