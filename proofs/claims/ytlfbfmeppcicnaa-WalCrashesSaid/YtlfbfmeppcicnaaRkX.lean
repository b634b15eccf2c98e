/- From a row's reading to a slice of bytes, of ints, of structs, of acts, of cuts. -/
import Derived.Test.YtlfbfmeppcicnaaByt
import Derived.ProofKit
import Derived.OpenShut
import Derived.ShutString
import Derived.ChangeOld
import Derived.SizedLaws
import Derived.Test.YtlfbfmeppcicnaaStr
import Derived.Deep.Slices
import Derived.Deep.Fields
import Derived.ChangeSame
import Derived.Test.YtlfbfmeppcicnaaWcw
namespace Go.Proofs.Ytlfbfmeppcicnaa
open Go.ChangeShapes Go.WideShapes Go.ChangeAt Go.RowKit
def IsRow (k : IntKind) (w : World) (a : Option Addr) (len cap : Nat) (zs : List Int) : Prop :=
  (a = none ∧ len = 0 ∧ cap = 0 ∧ zs = []) ∨
  ∃ x, a = some x ∧ len ≤ cap ∧ cap ≤ maxLen ∧ zs.length = cap ∧ (∀ i, i < zs.length → w.cell? (x.add i) = some (.int k (zs.getD i 0))) ∧ ∀ n ∈ zs, (Lit.int k n).wf = true
theorem IsRow.ints {k : IntKind} {w : World} {a : Option Addr} {len cap : Nat} {zs : List Int} (h : IsRow k w a len cap zs) :
    ∃ ys : List Int, ys.length = len ∧ len ≤ maxLen ∧ Rd w (.slice a len cap) (ys.map (Value.int k)) ∧ ∀ n ∈ ys, (Lit.int k n).wf = true := by
  rcases h with ⟨rfl, rfl, rfl, rfl⟩ | ⟨x, rfl, hl, hm, hz, hc, hw⟩
  · exact ⟨[], rfl, Nat.zero_le _, Rd.nil _ _ _, fun n hn => by cases hn⟩
  · refine ⟨zs.take len, by rw [List.length_take]; omega, Nat.le_trans hl hm, ⟨some x, cap, ?_, ?_, fun _ => ⟨x, rfl, fun j u hu => ?_⟩⟩, fun n hn => hw n (List.mem_of_mem_take hn)⟩
    · rw [List.length_map, List.length_take, Nat.min_eq_left (by omega)]
    · rw [List.length_map, List.length_take]; omega
    · rw [List.getElem?_map, List.getElem?_take] at hu
      split at hu
      · rename_i hj
        rw [hc j (by omega)]
        rw [List.getElem?_eq_getElem (by omega)] at hu
        rw [← hu, List.getD_eq_getElem?_getD, List.getElem?_eq_getElem (by omega)]
        rfl
      · cases hu
theorem IsRow.bytes {w : World} {a : Option Addr} {len cap : Nat} {zs : List Int} (h : IsRow .u8 w a len cap zs) : ∃ bs : List UInt8, bs.length = len ∧ len ≤ maxLen ∧ Rd w (.slice a len cap) (bvs bs) := by
  obtain ⟨ys, h1, h2, h3, h4⟩ := h.ints
  refine ⟨ys.map b8, by rw [List.length_map]; exact h1, h2, ?_⟩
  have e : ys.map (Value.int .u8) = bvs (ys.map b8) := by
    rw [bvs, List.map_map]
    refine List.map_congr_left fun n hn => ?_
    have hw := h4 n hn
    simp [Lit.wf, IntKind.min, IntKind.max] at hw
    rw [Function.comp, bv_b8]
    congr 1
    simp [IntKind.signed, IntKind.bits] at hw
    omega
  rw [← e]
  exact h3
end Go.Proofs.Ytlfbfmeppcicnaa
namespace Go.Proofs.Ytlfbfmeppcicnaa
open Go.ChangeShapes Go.WideShapes Go.Deep Go.RowKit
section
variable {H : Type} {enc : TypeId × Value → H} {P : Program} {w : World} {base : Nat} {spare : Nat → Bool} {held : Bool}
theorem open_rows {t e : TypeId} {fs : Array Field} {fuel : Nat} {A : Option Addr} {len cap : Nat} {x : DataW H × List MemPlace} (ht : P.underlying t = some (.slice e)) (he : P.underlying e = some (.struct fs))
    (hone : oneCellFields P fs = true) (hC : P.cellsOf e = fs.size) (h : DataW.trod enc P w base spare held fuel t [.slice A len cap] = some x) :
    ∃ rows : List (List Value), rows.length = len ∧ len ≤ maxLen ∧ RdF fs.size w (.slice A len cap) rows ∧
      ∀ r ∈ rows, r.length = fs.size ∧ ∀ (j : Nat) (f : Field), fs[j]? = some f → ∃ n v y, r[j]? = some v ∧ DataW.trod enc P w base spare held n f.type [v] = some y := by
  rcases open_slice ht h with ⟨h0, _⟩ | ⟨a, len', cap', m, n, D, Pl, hcs, hb, hl, hm, hmm, _, hi⟩
  · injection h0 with h0 _
    injection h0 with e1 e2 e3
    subst e1 e2 e3
    exact ⟨[], rfl, Nat.zero_le _, ⟨none, 0, rfl, fun hne => absurd rfl hne⟩, fun r hr => by cases hr⟩
  · injection hcs with hcs _
    injection hcs with e1 e2 e3
    subst e1 e2 e3
    have hle : len ≤ m := by rw [hmm]; split <;> omega
    obtain ⟨R, hR⟩ := choose_lt (α := List Value) (n := len) (p := fun i cs' => w.cells? base (a.add (i * P.cellsOf e)) (P.cellsOf e) = some cs' ∧ DataW.trod enc P w base spare held n e cs' = some (D i, Pl i)) (fun i him => hi i (by omega))
    refine ⟨(List.range len).map R, by simp, by omega, ⟨some a, cap, by simp, fun _ => ⟨a, rfl, fun i r j u hr hu => ?_⟩⟩, fun r hr => ?_⟩
    · rw [List.getElem?_map] at hr
      rcases Nat.lt_or_ge i len with hlt | hge
      · rw [List.getElem?_range hlt] at hr
        injection hr with hr
        subst hr
        obtain ⟨h1, _⟩ := hR i hlt
        rw [hC] at h1
        obtain ⟨_, hlen, hat⟩ := World.cells?_some h1
        have hj : j < fs.size := by
          have := (List.getElem?_eq_some_iff.1 hu).1
          omega
        have h3 := hat j hj
        rw [addr_add_add] at h3
        rw [h3, hu]
      · rw [List.getElem?_eq_none (by simpa using hge)] at hr; cases hr
    · obtain ⟨i, hi2, rfl⟩ := List.mem_map.1 hr
      have hlt := List.mem_range.1 hi2
      obtain ⟨h1, h2⟩ := hR i hlt
      rw [hC] at h1
      obtain ⟨_, hlen, _⟩ := World.cells?_some h1
      refine ⟨hlen, fun j f hj => ?_⟩
      obtain ⟨ys, n', _, _, _, hyl, hf⟩ := DataW.trod_struct he h2
      obtain ⟨ho, hk⟩ := hone_of hone j f hj
      have hjl : j < fs.size := (Array.getElem?_eq_some_iff.1 hj).1
      have h3 := hf j f hj
      rw [ho, hk, List.drop_eq_getElem_cons (by omega)] at h3
      have hys : ys[j]? = some (ys[j]'(by omega)) := List.getElem?_eq_getElem (by omega)
      exact ⟨n', _, _, List.getElem?_eq_getElem (by omega), h3.trans hys⟩
end
theorem rows_of {α : Type} (row : α → List Value) (ok : α → Prop) : ∀ rows : List (List Value), (∀ r ∈ rows, ∃ a, r = row a ∧ ok a) → ∃ al : List α, rows = al.map row ∧ ∀ a ∈ al, ok a
  | [], _ => ⟨[], rfl, fun a h => by cases h⟩
  | r :: rs, h => by
    obtain ⟨al, e, ho⟩ := rows_of row ok rs (fun r hr => h r (List.mem_cons_of_mem _ hr))
    obtain ⟨a, e1, h1⟩ := h r (List.mem_cons_self ..)
    refine ⟨a :: al, by rw [e, e1]; rfl, fun b hb => ?_⟩
    rcases List.mem_cons.1 hb with rfl | hb
    · exact h1
    · exact ho b hb
end Go.Proofs.Ytlfbfmeppcicnaa
namespace Go.Proofs.Ytlfbfmeppcicnaa
open Go.ChangeShapes Go.WideShapes Go.Deep Go.RowKit
theorem open_bytes1 {H : Type} {enc : TypeId × Value → H} {w : World} {base : Nat} {held : Bool} {fuel : Nat} {v : Value} {x : DataW H × List MemPlace}
    (h : DataW.trod enc Try.prog w base (fun _ => true) held fuel 32 [v] = some x) : ∃ bs : List UInt8, bs.length ≤ 9223372036854775807 ∧ Rd w v (bvs bs) := by
  rcases open_ints Try.underlying32 Try.underlying5 (by kernel_rfl) h with ⟨hcs, _⟩ | ⟨a, l, c, zs, hcs, _, hl, hm, hz, _, hcell, hwz⟩
  · injection hcs with hcs _
    subst hcs
    exact ⟨[], Nat.zero_le _, Rd.nil _ _ _⟩
  · injection hcs with hcs _
    subst hcs
    obtain ⟨bs, q1, q2, q3⟩ := IsRow.bytes (w := w) (a := some a) (len := l) (cap := c) (zs := zs) (.inr ⟨_, rfl, hl, hm, by simpa using hz, hcell, hwz⟩)
    exact ⟨bs, by rw [q1]; exact q2, q3⟩
theorem open_ints1 {H : Type} {enc : TypeId × Value → H} {w : World} {base : Nat} {held : Bool} {fuel : Nat} {v : Value} {x : DataW H × List MemPlace}
    (h : DataW.trod enc Try.prog w base (fun _ => true) held fuel 31 [v] = some x) : ∃ ys : List Int, ys.length ≤ 9223372036854775807 ∧ Rd w v (ivs ys) := by
  rcases open_ints Try.underlying31 Try.underlying3 (by kernel_rfl) h with ⟨hcs, _⟩ | ⟨a, l, c, zs, hcs, _, hl, hm, hz, _, hcell, hwz⟩
  · injection hcs with hcs _
    subst hcs
    exact ⟨[], Nat.zero_le _, Rd.nil _ _ _⟩
  · injection hcs with hcs _
    subst hcs
    obtain ⟨ys, q1, q2, q3, _⟩ := IsRow.ints (w := w) (a := some a) (len := l) (cap := c) (zs := zs) (.inr ⟨_, rfl, hl, hm, by simpa using hz, hcell, hwz⟩)
    exact ⟨ys, by rw [q1]; exact q2, q3⟩
theorem open_acts {H : Type} {enc : TypeId × Value → H} {w : World} {base : Nat} {fuel : Nat} {A : Option Addr} {len cap : Nat} {x : DataW H × List MemPlace} {held : Bool}
    (h : DataW.trod enc Try.prog w base (fun _ => true) held fuel 56 [.slice A len cap] = some x) :
    ∃ ys : List ActV, ys.length = len ∧ len ≤ maxLen ∧ RdA w (.slice A len cap) ys := by
  obtain ⟨rows, h1, h2, h3, h4⟩ := open_rows Try.underlying56 Try.underlying65 (by kernel_rfl) (by kernel_rfl) h
  obtain ⟨al, rfl, ho⟩ := rows_of ActV.row (ActV.ok w) rows (fun r hr => by
    obtain ⟨hl, hf⟩ := h4 r hr
    obtain ⟨n0, v0, y0, e0, t0⟩ := hf 0 _ rfl
    obtain ⟨n1, v1, y1, e1, t1⟩ := hf 1 _ rfl
    obtain ⟨n2, v2, y2, e2, t2⟩ := hf 2 _ rfl
    obtain ⟨z0, c0, _, w0⟩ := DataW.trod_int Try.underlying3 t0
    obtain ⟨z1, c1, _, w1⟩ := DataW.trod_int Try.underlying3 t1
    injection c0 with c0 _; injection c1 with c1 _
    subst c0 c1
    obtain ⟨bs, hb, hrd⟩ := open_bytes1 t2
    refine ⟨⟨z0, z1, v2, bs⟩, ?_, hrd, hb, w0, w1⟩
    match r, hl with
    | [a0, a1, a2], _ =>
      simp at e0 e1 e2
      subst e0 e1 e2
      rfl)
  exact ⟨al, by rw [← h1]; simp, h2, h3, ho⟩
theorem open_cuts {H : Type} {enc : TypeId × Value → H} {w : World} {base : Nat} {fuel : Nat} {A : Option Addr} {len cap : Nat} {x : DataW H × List MemPlace} {held : Bool}
    (h : DataW.trod enc Try.prog w base (fun _ => true) held fuel 69 [.slice A len cap] = some x) :
    ∃ ys : List CutV, ys.length = len ∧ len ≤ maxLen ∧ RdC w (.slice A len cap) ys := by
  have hcap : len ≤ cap := by
    rcases open_slice Try.underlying69 h with ⟨h0, _⟩ | ⟨a, len', cap', m, n, D, Pl, hcs, hb, hl, hm, hmm, _, hi⟩
    · injection h0 with h0 _
      injection h0 with e1 e2 e3
      omega
    · injection hcs with h0 _
      injection h0 with e1 e2 e3
      omega
  obtain ⟨rows, h1, h2, h3, h4⟩ := open_rows Try.underlying69 Try.underlying71 (by kernel_rfl) (by kernel_rfl) h
  obtain ⟨al, rfl, ho⟩ := rows_of CutV.row (CutV.ok w) rows (fun r hr => by
    obtain ⟨hl, hf⟩ := h4 r hr
    obtain ⟨n0, v0, y0, e0, t0⟩ := hf 0 _ rfl
    obtain ⟨n1, v1, y1, e1, t1⟩ := hf 1 _ rfl
    obtain ⟨z0, c0, _, w0⟩ := DataW.trod_int Try.underlying3 t0
    injection c0 with c0 _
    subst c0
    obtain ⟨bs, hb, hrd⟩ := open_ints1 t1
    refine ⟨⟨z0, v1, bs⟩, ?_, hrd, hb, w0⟩
    match r, hl with
    | [a0, a1], _ =>
      simp at e0 e1
      subst e0 e1
      rfl)
  have hl : al.length = len := by rw [← h1]; simp
  exact ⟨al, hl, h2, ⟨A, cap, by rw [hl], by rw [hl]; exact hcap⟩, h3, ho⟩
end Go.Proofs.Ytlfbfmeppcicnaa
