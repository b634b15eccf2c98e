/-
  From a row's readings to the words of the walks: slices of bytes, of whole numbers.
-/
import Derived.Test.YtefbmbfhhhjgkaaByt
import Derived.ProofKit
import Derived.OpenShut
import Derived.ShutString
import Derived.ChangeOld
import Derived.SizedLaws
namespace Go.Proofs.Ytefbmbfhhhjgkaa
open Go.ChangeShapes Go.WideShapes Go.ChangeAt Go.RowKit
def IsRow (k : IntKind) (w : World) (a : Option Addr) (len cap : Nat) (zs : List Int) : Prop :=
  (a = none ∧ len = 0 ∧ cap = 0 ∧ zs = []) ∨
  ∃ x, a = some x ∧ len ≤ cap ∧ cap ≤ maxLen ∧ zs.length = cap ∧ (∀ i, i < zs.length → w.cell? (x.add i) = some (.int k (zs.getD i 0))) ∧ ∀ n ∈ zs, (Lit.int k n).wf = true
theorem IsRow.ints {k : IntKind} {w : World} {a : Option Addr} {len cap : Nat} {zs : List Int} (h : IsRow k w a len cap zs) :
    ∃ ys : List Int, ys.length = len ∧ len ≤ maxLen ∧ Rd w (.slice a len cap) (ys.map (Value.int k)) ∧ ∀ n ∈ ys, (Lit.int k n).wf = true := by
  rcases h with ⟨rfl, rfl, rfl, rfl⟩ | ⟨x, rfl, hl, hm, hz, hc, hw⟩
  · exact ⟨[], rfl, Nat.zero_le _, Rd.nil _ _ _, fun n hn => by cases hn⟩
  · refine ⟨zs.take len, by rw [List.length_take]; omega, Nat.le_trans hl hm, ⟨some x, cap, ?_, ?_, fun _ => ⟨x, rfl, fun j u hu => ?_⟩⟩, fun n hn => hw n (List.mem_of_mem_take hn)⟩
    · rw [List.length_map, List.length_take, Nat.min_eq_left (by omega)]
    · rw [List.length_map, List.length_take]; omega
    · rw [List.getElem?_map, List.getElem?_take] at hu
      split at hu
      · rename_i hj
        rw [hc j (by omega)]
        rw [List.getElem?_eq_getElem (by omega)] at hu
        rw [← hu, List.getD_eq_getElem?_getD, List.getElem?_eq_getElem (by omega)]
        rfl
      · cases hu
theorem IsRow.bytes {w : World} {a : Option Addr} {len cap : Nat} {zs : List Int} (h : IsRow .u8 w a len cap zs) : ∃ bs : List UInt8, bs.length = len ∧ len ≤ maxLen ∧ Rd w (.slice a len cap) (bvs bs) := by
  obtain ⟨ys, h1, h2, h3, h4⟩ := h.ints
  refine ⟨ys.map b8, by rw [List.length_map]; exact h1, h2, ?_⟩
  have e : ys.map (Value.int .u8) = bvs (ys.map b8) := by
    rw [bvs, List.map_map]
    refine List.map_congr_left fun n hn => ?_
    have hw := h4 n hn
    simp [Lit.wf, IntKind.min, IntKind.max] at hw
    rw [Function.comp, bv_b8]
    congr 1
    simp [IntKind.signed, IntKind.bits] at hw
    omega
  rw [← e]
  exact h3
end Go.Proofs.Ytefbmbfhhhjgkaa
