/- From a row's reading of a slice of slices of whole numbers to its elements. -/
import Derived.Test.YtlfbfmeppcicnaaRkY
import Derived.Test.YtlfbfmeppcicnaaWre
import Derived.Deep.Slices
namespace Go.Proofs.Ytlfbfmeppcicnaa
open Go.ChangeShapes Go.WideShapes Go.Deep Go.RowKit
theorem open_ints1 {H : Type} {enc : TypeId × Value → H} {w : World} {base : Nat} {held : Bool} {fuel : Nat} {v : Value} {x : DataW H × List MemPlace}
    (h : DataW.trod enc Try.prog w base (fun _ => true) held fuel 31 [v] = some x) : ∃ bs : List Int, Rd w v (ivs bs) := by
  rcases open_ints Try.underlying31 Try.underlying3 (by kernel_rfl) h with ⟨hcs, _⟩ | ⟨a, l, c, zs, hcs, _, hl, hm, hz, _, hcell, hwz⟩
  · injection hcs with hcs _
    subst hcs
    exact ⟨[], Rd.nil _ _ _⟩
  · injection hcs with hcs _
    subst hcs
    obtain ⟨bs, q1, q2, q3, q4⟩ := IsRow.ints (w := w) (a := some a) (len := l) (cap := c) (zs := zs) (.inr ⟨_, rfl, hl, hm, by simpa using hz, hcell, hwz⟩)
    exact ⟨bs, q3⟩
theorem open_intss {H : Type} {enc : TypeId × Value → H} {w : World} {base : Nat} {held : Bool} {fuel : Nat} {A : Option Addr} {len cap : Nat} {x : DataW H × List MemPlace}
    (h : DataW.trod enc Try.prog w base (fun _ => true) held fuel 33 [.slice A len cap] = some x) :
    ∃ ys : List (Value × List Int), ys.length = len ∧ len ≤ maxLen ∧ RdI w (.slice A len cap) ys := by
  rcases open_slice1 Try.underlying33 (by kernel_rfl) h with ⟨h0, _⟩ | ⟨a, len', cap', m, n, V, D, Pl, hcs, hb, hl, hm, hmm, _, hi⟩
  · injection h0 with h0 _
    injection h0 with e1 e2 e3
    subst e1 e2 e3
    exact ⟨[], rfl, Nat.zero_le _, ⟨Rd.nil _ _ _, fun p hp => by cases hp⟩⟩
  · injection hcs with hcs _
    injection hcs with e1 e2 e3
    subst e1 e2 e3
    have hle : len ≤ m := by rw [hmm, if_pos rfl]; exact hl
    obtain ⟨B, hB⟩ := choose_lt (α := List Int) (n := len) (p := fun i bs => Rd w (V i) (ivs bs)) (fun i him => open_ints1 (hi i (by omega)).2)
    refine ⟨(List.range len).map fun i => (V i, B i), by simp, by omega, ⟨⟨some a, cap, by simp, by simpa using hl, fun _ => ⟨a, rfl, fun j u hu => ?_⟩⟩, fun p hp => ?_⟩⟩
    · rw [List.map_map, List.getElem?_map] at hu
      rcases Nat.lt_or_ge j len with hlt | hge
      · rw [List.getElem?_range hlt] at hu
        cases hu
        exact (hi j (by omega)).1
      · rw [List.getElem?_eq_none (by simpa using hge)] at hu; cases hu
    · obtain ⟨i, hi2, rfl⟩ := List.mem_map.1 hp
      exact hB i (List.mem_range.1 hi2)
end Go.Proofs.Ytlfbfmeppcicnaa
