import Derived.Test.YtoloogpglnonaaaFlt
namespace Go.Proofs.Ytoloogpglnonaaa
open Go.RowKit
/-- A put of a writer. -/
structure Put3 where
  (kind n : Int)
  bs : List UInt8
def RdP (w : World) (v : Value) (ps : List Put3) : Prop :=
  ∃ sl : Nat → Value, RdF 3 w v ((List.range ps.length).map fun i => [.int .i64 ((ps[i]?.getD ⟨0, 0, []⟩).kind), .int .i64 ((ps[i]?.getD ⟨0, 0, []⟩).n), sl i]) ∧ ∀ i, i < ps.length → Rd w (sl i) (bvs (ps[i]?.getD ⟨0, 0, []⟩).bs)
namespace RdP
variable {w w' : World} {v : Value} {ps : List Put3}
theorem below (h : RdP w v ps) (hb : Below w.heap.size w w') : RdP w' v ps := by
  obtain ⟨sl, h1, h2⟩ := h
  exact ⟨sl, h1.below hb, fun i hi => (h2 i hi).below hb⟩
theorem shape (h : RdP w v ps) : ∃ A c, v = .slice A ps.length c := by
  obtain ⟨sl, h1, _⟩ := h
  obtain ⟨A, c, rfl⟩ := h1.shape
  exact ⟨A, c, by simp⟩
theorem at_ {A : Option Addr} {n c : Nat} (h : RdP w (.slice A n c) ps) {k : Nat} (hk : k < ps.length) :
    ∃ ad B m d, A = some ad ∧ w.cell? (ad.add (k * 3)) = some (.int .i64 ps[k].kind) ∧ w.cell? ⟨(ad.add (k * 3)).block, (ad.add (k * 3)).off + 1, none⟩ = some (.int .i64 ps[k].n) ∧
      w.cell? ⟨(ad.add (k * 3)).block, (ad.add (k * 3)).off + 2, none⟩ = some (.slice B m d) ∧ m = ps[k].bs.length ∧ Rd w (.slice B m d) (bvs ps[k].bs) := by
  obtain ⟨sl, h1, h2⟩ := h
  obtain ⟨ad, rfl, hc⟩ := h1.at_ (k := k) (by simpa using hk)
  have h3 := h2 k hk
  simp only [List.getElem_map, List.getElem_range, List.getElem?_eq_getElem hk, Option.getD_some] at hc h3
  obtain ⟨B, d, e⟩ := h3.shape8
  have q0 := hc 0 _ rfl
  have q1 := hc 1 _ rfl
  have q2 := hc 2 _ rfl
  rw [e] at q2 h3
  exact ⟨ad, B, _, d, rfl, by simpa [Addr.add] using q0, add_cell (j := 0) q1, add_cell (j := 1) q2, rfl, h3⟩
end RdP
def totP (ps : List Put3) : Nat := (ps.map fun p => p.bs.length).sum
theorem totP_succ (ps : List Put3) {k : Nat} (h : k < ps.length) : totP (ps.take (k + 1)) = totP (ps.take k) + ps[k].bs.length := by
  unfold totP
  rw [List.take_succ_eq_append_getElem h, List.map_append, List.sum_append]
  simp
def Few (ps : List Put3) : Prop := ps.length ≤ 300 ∧ (∀ k (h : k < ps.length), ps[k].bs.length ≤ 4096 ∧ (ps[k].kind = 4 → ps[k].n ≤ 4096)) ∧ totP ps ≤ 16384

def FewOut (w : World) (ps : List Put3) (e : Ending) (w' : World) : Prop := ∃ b, e = .returned (.bool b) ∧ (b = true → Few ps) ∧ w = w'
end Go.Proofs.Ytoloogpglnonaaa
