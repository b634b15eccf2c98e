/-
  From a row's reading of a slice of structs (one-cell fields) to its rows of cells.
-/
import Derived.Test.YtfapehgjiglflaaStr
import Derived.Deep.Slices
import Derived.Deep.Fields
import Derived.ChangeSame
import Derived.ProofKit
namespace Go.Proofs.Ytfapehgjiglflaa
open Go.ChangeShapes Go.WideShapes Go.Deep Go.RowKit
section
variable {H : Type} {enc : TypeId × Value → H} {P : Program} {w : World} {base : Nat} {spare : Nat → Bool} {held : Bool}
theorem open_rows {t e : TypeId} {fs : Array Field} {fuel : Nat} {A : Option Addr} {len cap : Nat} {x : DataW H × List MemPlace} (ht : P.underlying t = some (.slice e)) (he : P.underlying e = some (.struct fs))
    (hone : oneCellFields P fs = true) (hC : P.cellsOf e = fs.size) (h : DataW.trod enc P w base spare held fuel t [.slice A len cap] = some x) :
    ∃ rows : List (List Value), rows.length = len ∧ len ≤ maxLen ∧ RdF fs.size w (.slice A len cap) rows ∧
      ∀ r ∈ rows, r.length = fs.size ∧ ∀ (j : Nat) (f : Field), fs[j]? = some f → ∃ n v y, r[j]? = some v ∧ DataW.trod enc P w base spare held n f.type [v] = some y := by
  rcases open_slice ht h with ⟨h0, _⟩ | ⟨a, len', cap', m, n, D, Pl, hcs, hb, hl, hm, hmm, _, hi⟩
  · injection h0 with h0 _
    injection h0 with e1 e2 e3
    subst e1 e2 e3
    exact ⟨[], rfl, Nat.zero_le _, ⟨none, 0, rfl, fun hne => absurd rfl hne⟩, fun r hr => by cases hr⟩
  · injection hcs with hcs _
    injection hcs with e1 e2 e3
    subst e1 e2 e3
    have hle : len ≤ m := by rw [hmm]; split <;> omega
    obtain ⟨R, hR⟩ := choose_lt (α := List Value) (n := len) (p := fun i cs' => w.cells? base (a.add (i * P.cellsOf e)) (P.cellsOf e) = some cs' ∧ DataW.trod enc P w base spare held n e cs' = some (D i, Pl i)) (fun i him => hi i (by omega))
    refine ⟨(List.range len).map R, by simp, by omega, ⟨some a, cap, by simp, fun _ => ⟨a, rfl, fun i r j u hr hu => ?_⟩⟩, fun r hr => ?_⟩
    · rw [List.getElem?_map] at hr
      rcases Nat.lt_or_ge i len with hlt | hge
      · rw [List.getElem?_range hlt] at hr
        injection hr with hr
        subst hr
        obtain ⟨h1, _⟩ := hR i hlt
        rw [hC] at h1
        obtain ⟨_, hlen, hat⟩ := World.cells?_some h1
        have hj : j < fs.size := by
          have := (List.getElem?_eq_some_iff.1 hu).1
          omega
        have h3 := hat j hj
        rw [addr_add_add] at h3
        rw [h3, hu]
      · rw [List.getElem?_eq_none (by simpa using hge)] at hr; cases hr
    · obtain ⟨i, hi2, rfl⟩ := List.mem_map.1 hr
      have hlt := List.mem_range.1 hi2
      obtain ⟨h1, h2⟩ := hR i hlt
      rw [hC] at h1
      obtain ⟨_, hlen, _⟩ := World.cells?_some h1
      refine ⟨hlen, fun j f hj => ?_⟩
      obtain ⟨ys, n', _, _, _, hyl, hf⟩ := DataW.trod_struct he h2
      obtain ⟨ho, hk⟩ := hone_of hone j f hj
      have hjl : j < fs.size := (Array.getElem?_eq_some_iff.1 hj).1
      have h3 := hf j f hj
      rw [ho, hk, List.drop_eq_getElem_cons (by omega)] at h3
      have hys : ys[j]? = some (ys[j]'(by omega)) := List.getElem?_eq_getElem (by omega)
      exact ⟨n', _, _, List.getElem?_eq_getElem (by omega), h3.trans hys⟩
end
theorem rows_of {α : Type} (row : α → List Value) (ok : α → Prop) : ∀ rows : List (List Value), (∀ r ∈ rows, ∃ a, r = row a ∧ ok a) → ∃ al : List α, rows = al.map row ∧ ∀ a ∈ al, ok a
  | [], _ => ⟨[], rfl, fun a h => by cases h⟩
  | r :: rs, h => by
    obtain ⟨al, e, ho⟩ := rows_of row ok rs (fun r hr => h r (List.mem_cons_of_mem _ hr))
    obtain ⟨a, e1, h1⟩ := h r (List.mem_cons_self ..)
    refine ⟨a :: al, by rw [e, e1]; rfl, fun b hb => ?_⟩
    rcases List.mem_cons.1 hb with rfl | hb
    · exact h1
    · exact ho b hb
end Go.Proofs.Ytfapehgjiglflaa
