import Derived.Test.YtoloogpglnonaaaWrf
import Derived.Test.YtoloogpglnonaaaBak
import Derived.Deep.CutRange
namespace Go.Proofs.Ytoloogpglnonaaa
open Go.RowKit
/- The program's writer and the document's, side by side. -/
theorem Own8.chg {S : Nat → Prop} {w w' : World} {v : Value} {xs : List UInt8} (h : Own8 w v xs) (hb : Chg S w w') (hs : ∀ k, v.ownBlock = some k → ¬ S k) : Own8 w' v xs := by
  rcases h with ⟨h1, h2⟩
  refine ⟨h1, ?_⟩
  rcases h2 with h2 | ⟨g, cap, cur, rfl, hb0, hg, h3⟩
  · exact .inl h2
  · refine .inr ⟨g, cap, cur, rfl, hb0, ?_, h3⟩
    have hlt : g < w.heap.size := by
      rcases Nat.lt_or_ge g w.heap.size with hlt | hge
      · exact hlt
      · rw [Array.getElem?_eq_none hge] at hg; cases hg
    rw [hb.block g hlt (hs g (by simp [Value.ownBlock]))]
    exact hg
structure Pair (B : Nat) (w : World) (g q : Nat) (v u : Value) (xs ys : List UInt8) : Prop where
  a : Wr w g v xs
  b : RWr w q u ys
  ne : ∀ k, Wset g v k → ¬ Wset q u k
  ga : ∀ k, Wset g v k → B ≤ k
  gb : ∀ k, Wset q u k → B ≤ k
theorem Wr.wlt {w : World} {g : Nat} {v : Value} {xs : List UInt8} (h : Wr w g v xs) : ∀ k, Wset g v k → k < w.heap.size := fun k hk => by
  rcases hk with rfl | hk
  · exact h.blk.lt
  · exact h.own.lt k hk
theorem RWr.wlt {w : World} {g : Nat} {v : Value} {xs : List UInt8} (h : RWr w g v xs) : ∀ k, Wset g v k → k < w.heap.size := fun k hk => by
  rcases hk with rfl | hk
  · exact h.blk.lt
  · exact h.own.lt k hk
theorem RWr.chg {S : Nat → Prop} {w w' : World} {g : Nat} {v : Value} {xs : List UInt8} (h : RWr w g v xs) (hb : Chg S w w') (hs : ∀ k, Wset g v k → ¬ S k) : RWr w' g v xs :=
  ⟨h.blk.chg hb (hs g (.inl rfl)), h.own.chg hb fun k hk => hs k (.inr hk)⟩
theorem Wr.chg {S : Nat → Prop} {w w' : World} {g : Nat} {v : Value} {xs : List UInt8} (h : Wr w g v xs) (hb : Chg S w w') (hs : ∀ k, Wset g v k → ¬ S k) : Wr w' g v xs :=
  ⟨h.blk.chg hb (hs g (.inl rfl)), h.own.chg hb fun k hk => hs k (.inr hk)⟩
theorem Wset.new {w : World} {g : Nat} {v v1 : Value} (h3 : v1.ownBlock = v.ownBlock ∨ ∃ k, v1.ownBlock = some k ∧ w.heap.size ≤ k) {k : Nat} (hk : Wset g v1 k) : Wset g v k ∨ w.heap.size ≤ k := by
  rcases hk with rfl | hk
  · exact .inl (.inl rfl)
  · rcases h3 with e | ⟨j, e, hj⟩
    · exact .inl (.inr (by rw [← e]; exact hk))
    · rw [e] at hk; injection hk with hk; exact .inr (by omega)
theorem Pair.first {w0 w w' : World} {g q : Nat} {v u : Value} {xs ys us : List UInt8} {e : Ending} (h : Pair w0.heap.size w g q v u xs ys) (hB : Below w0.heap.size w0 w) (ho : WrOut w g v us e w') :
    e = .returned (.tuple #[]) ∧ Chg (Wset g v) w w' ∧ ∃ v1, Pair w0.heap.size w' g q v1 u us ys ∧ Below w0.heap.size w0 w' := by
  obtain ⟨rfl, v1, h1, h2, h3⟩ := ho
  refine ⟨rfl, h2, v1, ⟨h1, h.b.chg h2 (fun k hk hk' => h.ne k hk' hk), fun k hk hk' => ?_, fun k hk => ?_, h.gb⟩, hB.trans (h2.below hB.size h.ga)⟩
  · rcases Wset.new h3 hk with e | e
    · exact h.ne k e hk'
    · have := h.b.wlt k hk'; omega
  · rcases Wset.new h3 hk with e | e
    · exact h.ga k e
    · exact Nat.le_trans hB.size e
theorem Pair.second {w0 w w' : World} {g q : Nat} {v u : Value} {xs ys us : List UInt8} {e : Ending} (h : Pair w0.heap.size w g q v u xs ys) (hB : Below w0.heap.size w0 w) (ho : RWrOut w q u us e w') :
    e = .returned (.tuple #[]) ∧ Chg (Wset q u) w w' ∧ ∃ u1, Pair w0.heap.size w' g q v u1 xs us ∧ Below w0.heap.size w0 w' := by
  obtain ⟨rfl, v1, h1, h2, h3⟩ := ho
  refine ⟨rfl, h2, v1, ⟨h.a.chg h2 (fun k hk hk' => h.ne k hk hk'), h1, fun k hk hk' => ?_, h.ga, fun k hk => ?_⟩, hB.trans (h2.below hB.size h.gb)⟩
  · rcases Wset.new h3 hk' with e | e
    · exact h.ne k hk e
    · have := h.a.wlt k hk; omega
  · rcases Wset.new h3 hk with e | e
    · exact h.gb k e
    · exact Nat.le_trans hB.size e
theorem Pair.below {B : Nat} {w w' : World} {g q : Nat} {v u : Value} {xs ys : List UInt8} (h : Pair B w g q v u xs ys) (hb : Below w.heap.size w w') : Pair B w' g q v u xs ys :=
  ⟨h.a.chg (S := fun _ => False) ⟨hb.os, hb.tape, hb.output, hb.size, fun k hk _ => hb.block k hk⟩ (fun _ _ => id), h.b.chg (S := fun _ => False) ⟨hb.os, hb.tape, hb.output, hb.size, fun k hk _ => hb.block k hk⟩ (fun _ _ => id), h.ne, h.ga, h.gb⟩
theorem Pair.cast {B : Nat} {w : World} {g q : Nat} {v u : Value} {xs ys xs' ys' : List UInt8} (h : Pair B w g q v u xs ys) (e : xs = xs') (e' : ys = ys') : Pair B w g q v u xs' ys' := e ▸ e' ▸ h
theorem below_get {w W : World} {p : Addr} {v : Value} (h : Below w.heap.size w W) (hc : w.cell? p = some v) : W.cell? p = some v := (h.cell (World.block_lt_of_cell? w _ hc)).trans hc
theorem RdP.load {w : World} {ps : List Put3} {A : Option Addr} {n c : Nat} (h : RdP w (.slice A n c) ps) {k : Nat} (hk : k < ps.length) :
    ∃ ad B m d, A = some ad ∧ (∀ j u, [Value.int .i64 ps[k].kind, .int .i64 ps[k].n, .slice B m d][j]? = some u → w.cell? ((ad.add (k * 3)).add j) = some u) ∧ m = ps[k].bs.length ∧ Rd w (.slice B m d) (bvs ps[k].bs) ∧
      (ps[k].bs ≠ [] → ∀ j, (Value.slice B m d).ownBlock = some j → j < w.heap.size) := by
  obtain ⟨sl, h1, h2⟩ := h
  obtain ⟨ad, rfl, hc⟩ := h1.at_ (k := k) (by simpa using hk)
  have h3 := h2 k hk
  simp only [List.getElem_map, List.getElem_range, List.getElem?_eq_getElem hk, Option.getD_some] at hc h3
  obtain ⟨B, d, e⟩ := h3.shape8
  rw [e] at hc h3
  refine ⟨ad, B, _, d, rfl, hc, rfl, h3, fun hne j hj => ?_⟩
  obtain ⟨a2, c3, e, hc3⟩ := h3.cell (j := 0) (by rw [bvs_length]; exact List.length_pos_iff.2 hne)
  injection e with e1 _ _
  subst e1
  have hl := World.block_lt_of_cell? w _ hc3
  rw [addr_add_block] at hl
  simp [Value.ownBlock] at hj
  rw [← hj]
  exact hl
end Go.Proofs.Ytoloogpglnonaaa
