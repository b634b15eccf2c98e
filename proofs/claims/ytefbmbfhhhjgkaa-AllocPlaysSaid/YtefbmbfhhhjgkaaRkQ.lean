/- From a row's reading of a slice of acts, of a pool, to its numbers. Printed by genrq.py. -/
import Derived.Test.YtefbmbfhhhjgkaaRkY
import Derived.Test.YtefbmbfhhhjgkaaPl
import Derived.Deep.Slices
import Derived.Deep.Fields
import Derived.ChangeSame
namespace Go.Proofs.Ytefbmbfhhhjgkaa
open Go.ChangeShapes Go.WideShapes Go.Deep Go.RowKit
section
variable {H : Type} {enc : TypeId × Value → H} {P : Program} {w : World} {base : Nat} {spare : Nat → Bool} {held : Bool}
theorem open_rows {t e : TypeId} {fs : Array Field} {fuel : Nat} {A : Option Addr} {len cap : Nat} {x : DataW H × List MemPlace} (ht : P.underlying t = some (.slice e)) (he : P.underlying e = some (.struct fs))
    (hone : oneCellFields P fs = true) (hC : P.cellsOf e = fs.size) (h : DataW.trod enc P w base spare held fuel t [.slice A len cap] = some x) :
    ∃ rows : List (List Value), rows.length = len ∧ len ≤ maxLen ∧ RdF fs.size w (.slice A len cap) rows ∧
      ∀ r ∈ rows, r.length = fs.size ∧ ∀ (j : Nat) (f : Field), fs[j]? = some f → ∃ n v y, r[j]? = some v ∧ DataW.trod enc P w base spare held n f.type [v] = some y := by
  rcases open_slice ht h with ⟨h0, _⟩ | ⟨a, len', cap', m, n, D, Pl, hcs, hb, hl, hm, hmm, _, hi⟩
  · injection h0 with h0 _
    injection h0 with e1 e2 e3
    subst e1 e2 e3
    exact ⟨[], rfl, Nat.zero_le _, ⟨none, 0, rfl, fun hne => absurd rfl hne⟩, fun r hr => by cases hr⟩
  · injection hcs with hcs _
    injection hcs with e1 e2 e3
    subst e1 e2 e3
    have hle : len ≤ m := by rw [hmm]; split <;> omega
    obtain ⟨R, hR⟩ := choose_lt (α := List Value) (n := len) (p := fun i cs' => w.cells? base (a.add (i * P.cellsOf e)) (P.cellsOf e) = some cs' ∧ DataW.trod enc P w base spare held n e cs' = some (D i, Pl i)) (fun i him => hi i (by omega))
    refine ⟨(List.range len).map R, by simp, by omega, ⟨some a, cap, by simp, fun _ => ⟨a, rfl, fun i r j u hr hu => ?_⟩⟩, fun r hr => ?_⟩
    · rw [List.getElem?_map] at hr
      rcases Nat.lt_or_ge i len with hlt | hge
      · rw [List.getElem?_range hlt] at hr
        injection hr with hr
        subst hr
        obtain ⟨h1, _⟩ := hR i hlt
        rw [hC] at h1
        obtain ⟨_, hlen, hat⟩ := World.cells?_some h1
        have hj : j < fs.size := by
          have := (List.getElem?_eq_some_iff.1 hu).1
          omega
        have h3 := hat j hj
        rw [addr_add_add] at h3
        rw [h3, hu]
      · rw [List.getElem?_eq_none (by simpa using hge)] at hr; cases hr
    · obtain ⟨i, hi2, rfl⟩ := List.mem_map.1 hr
      have hlt := List.mem_range.1 hi2
      obtain ⟨h1, h2⟩ := hR i hlt
      rw [hC] at h1
      obtain ⟨_, hlen, _⟩ := World.cells?_some h1
      refine ⟨hlen, fun j f hj => ?_⟩
      obtain ⟨ys, n', _, _, _, hyl, hf⟩ := DataW.trod_struct he h2
      obtain ⟨ho, hk⟩ := hone_of hone j f hj
      have hjl : j < fs.size := (Array.getElem?_eq_some_iff.1 hj).1
      have h3 := hf j f hj
      rw [ho, hk, List.drop_eq_getElem_cons (by omega)] at h3
      have hys : ys[j]? = some (ys[j]'(by omega)) := List.getElem?_eq_getElem (by omega)
      exact ⟨n', _, _, List.getElem?_eq_getElem (by omega), h3.trans hys⟩
end
theorem rows_of {α : Type} (row : α → List Value) (ok : α → Prop) : ∀ rows : List (List Value), (∀ r ∈ rows, ∃ a, r = row a ∧ ok a) → ∃ al : List α, rows = al.map row ∧ ∀ a ∈ al, ok a
  | [], _ => ⟨[], rfl, fun a h => by cases h⟩
  | r :: rs, h => by
    obtain ⟨al, e, ho⟩ := rows_of row ok rs (fun r hr => h r (List.mem_cons_of_mem _ hr))
    obtain ⟨a, e1, h1⟩ := h r (List.mem_cons_self ..)
    refine ⟨a :: al, by rw [e, e1]; rfl, fun b hb => ?_⟩
    rcases List.mem_cons.1 hb with rfl | hb
    · exact h1
    · exact ho b hb
theorem open_pacts {H : Type} {enc : TypeId × Value → H} {w : World} {base : Nat} {fuel : Nat} {A : Option Addr} {len cap : Nat} {x : DataW H × List MemPlace} {held : Bool}
    (h : DataW.trod enc Try.prog w base (fun _ => true) held fuel 38 [.slice A len cap] = some x) :
    ∃ ys : List PAct, ys.length = len ∧ len ≤ maxLen ∧ RdP w (.slice A len cap) ys := by
  obtain ⟨rows, h1, h2, h3, h4⟩ := open_rows Try.underlying38 Try.underlying50 (by kernel_rfl) (by kernel_rfl) h
  obtain ⟨al, rfl, ho⟩ := rows_of PAct.row PAct.ok rows (fun r hr => by
    obtain ⟨hl, hf⟩ := h4 r hr
    obtain ⟨n0, v0, y0, e0, t0⟩ := hf 0 _ rfl
    obtain ⟨n1, v1, y1, e1, t1⟩ := hf 1 _ rfl
    obtain ⟨z0, c0, _, w0⟩ := DataW.trod_int Try.underlying3 t0
    obtain ⟨z1, c1, _, w1⟩ := DataW.trod_int Try.underlying3 t1
    injection c0 with c0 _; injection c1 with c1 _
    subst c0 c1
    refine ⟨⟨z0, z1⟩, ?_, w1⟩
    match r, hl with
    | [a0, a1], _ =>
      simp at e0 e1
      subst e0 e1
      rfl)
  exact ⟨al, by rw [← h1]; simp, h2, h3, ho⟩
theorem pone {H : Type} {enc : TypeId × Value → H} {P : Program} {w : World} {base : Nat} {spare : Nat → Bool} {held : Bool} {m : Nat} {t : TypeId} {cs : List Value} {xs : List (DataW H × List MemPlace)} {i : Nat} (ht : P.underlying t = some (.int .i64)) (hi : i < xs.length)
    (h : DataW.trod enc P w base spare held m t cs = xs[i]?) : ∃ n, cs = [.int .i64 n] ∧ (Lit.int .i64 n).wf = true := by
  rw [List.getElem?_eq_getElem hi] at h
  obtain ⟨n, e, _, w0⟩ := DataW.trod_int ht h
  exact ⟨n, e, w0⟩
theorem open_pool {H : Type} {enc : TypeId × Value → H} {w : World} {base : Nat} {spare : Nat → Bool} {held : Bool} {fuel : Nat} {cs : Array Value} {x : DataW H × List MemPlace} (hs : cs.size = 3)
    (h : DataW.trod enc Try.prog w base spare held fuel 29 cs.toList = some x) : ∃ n : PoolV, cs = n.cells ∧ n.ok := by
  obtain ⟨l⟩ := cs
  have hl : l.length = 3 := by simpa using hs
  match l, hl with
  | [c0, c1, c2], _ =>
    obtain ⟨xs, m, _, _, _, hxl, hf⟩ := DataW.trod_struct Try.underlying29 h
    have hxl : xs.length = 3 := hxl
    obtain ⟨k0, e0, w0⟩ := pone Try.underlying3 (by omega) (hf 0 _ rfl)
    obtain ⟨k1, e1, w1⟩ := pone Try.underlying3 (by omega) (hf 1 _ rfl)
    obtain ⟨k2, e2, w2⟩ := pone Try.underlying3 (by omega) (hf 2 _ rfl)
    have ci : Try.prog.cellsOf 3 = 1 := by kernel_rfl
    simp [ci] at e0 e1 e2
    subst e0 e1 e2
    exact ⟨⟨k0, k1, k2⟩, rfl, w0, w1, w2⟩
end Go.Proofs.Ytefbmbfhhhjgkaa
