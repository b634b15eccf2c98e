/- The cache: Drop, New; a cache in a caller's hands. -/
import Derived.Test.YtfapehgjiglflaaKw
namespace Go.Proofs.Ytfapehgjiglflaa
open Go.RowKit
set_option maxRecDepth 10000 in
set_option maxHeartbeats 2000000 in
theorem Drop_raw (w : World) {gc g N : Nat} {c : Ck} {m0 : Option Nat} {p q : Option Addr} (hB : Blk w gc 80 #[.pointer (some ⟨g, 0, none⟩), .int .i64 c.size, .map m0, .int .i64 0, .slice none 0 0, .bool false, .int .i64 0, .pointer p, .pointer q, .int .i64 c.hits, .int .i64 c.misses, .int .i64 c.evs]) :
    Calls Try.prog 19 #[.pointer (some ⟨gc, 0, none⟩)] w fun e w' => e = .returned (.tuple #[]) ∧ KM w' gc g w.heap.size ⟨c.size, [], c.hits, c.misses, c.evs⟩ [] ∧ IM Try.prog 3 w' w.heap.size N (mfN []) ∧ Chg (fun j => j = gc) w w' := by
  have hlt := hB.lt
  have b0 : Blk (w.alloc (.map #[] 0)) gc _ _ := hB.alloc _
  have m0' := IM.made Try.prog 3 w N
  obtain ⟨w1, hw1⟩ : ∃ w1, w.alloc (.map #[] 0) = w1 := ⟨_, rfl⟩
  rw [hw1] at b0 m0'
  have c2 : w1.cell? ⟨gc, 2, none⟩ = some (.map m0) := b0.cell 2
  have f2 := b0.frozen 2
  have b1 := b0.set_ 2 (.map (some w.heap.size))
  obtain ⟨w2, hw2⟩ : ∃ w2, w1.setCell ⟨gc, 2, none⟩ (.map (some w.heap.size)) = w2 := ⟨_, rfl⟩
  rw [hw2] at b1
  have b1 : Blk w2.drew gc 80 #[.pointer (some ⟨g, 0, none⟩), .int .i64 c.size, .map (some w.heap.size), .int .i64 0, .slice none 0 0, .bool false, .int .i64 0, .pointer p, .pointer q, .int .i64 c.hits, .int .i64 c.misses, .int .i64 c.evs] := b1
  have c7 : w2.drew.cell? ⟨gc, 7, none⟩ = some (.pointer p) := b1.cell 7
  have f7 := b1.frozen 7
  have b2 := b1.set_ 7 (.pointer (some ⟨gc, 3, none⟩))
  have c8 : (w2.drew.setCell ⟨gc, 7, none⟩ (.pointer (some ⟨gc, 3, none⟩))).cell? ⟨gc, 8, none⟩ = some (.pointer q) := b2.cell 8
  have f8 := b2.frozen 8
  have c8' : w2.cell? ⟨gc, 8, none⟩ = some (.pointer q) := b1.cell 8
  have f8' : w2.frozen? ⟨gc, 8, none⟩ = false := b1.frozen 8
  have b3 : Blk ((w2.drew.setCell ⟨gc, 7, none⟩ (.pointer (some ⟨gc, 3, none⟩))).setCell ⟨gc, 8, none⟩ (.pointer (some ⟨gc, 3, none⟩))) gc 80 #[.pointer (some ⟨g, 0, none⟩), .int .i64 c.size, .map (some w.heap.size), .int .i64 0, .slice none 0 0, .bool false, .int .i64 0, .pointer (some ⟨gc, 3, none⟩), .pointer (some ⟨gc, 3, none⟩), .int .i64 c.hits, .int .i64 c.misses, .int .i64 c.evs] := b2.set_ 8 _
  have hfin : Hid (KM ((w2.drew.setCell ⟨gc, 7, none⟩ (.pointer (some ⟨gc, 3, none⟩))).setCell ⟨gc, 8, none⟩ (.pointer (some ⟨gc, 3, none⟩))) gc g w.heap.size ⟨c.size, [], c.hits, c.misses, c.evs⟩ [] ∧ IM Try.prog 3 ((w2.drew.setCell ⟨gc, 7, none⟩ (.pointer (some ⟨gc, 3, none⟩))).setCell ⟨gc, 8, none⟩ (.pointer (some ⟨gc, 3, none⟩))) w.heap.size N (mfN []) ∧ Chg (fun j => j = gc) w ((w2.drew.setCell ⟨gc, 7, none⟩ (.pointer (some ⟨gc, 3, none⟩))).setCell ⟨gc, 8, none⟩ (.pointer (some ⟨gc, 3, none⟩)))) := by
    refine ⟨⟨⟨_, _, b3⟩, (fun x hx => absurd hx (by simp)), ?_, List.nodup_nil⟩, ?_, ?_⟩
    · show Lnk _ gc [gc, gc]
      refine ⟨?_, ?_, trivial⟩
      · unfold nx ad
        rw [ofs_self]
        exact b3.cell 8
      · unfold pv ad
        rw [ofs_self]
        exact b3.cell 7
    · have e : mfN [] = fun _ => none := rfl
      rw [e]
      have hne : w.heap.size ≠ gc := by omega
      have m1 : IM Try.prog 3 w2 w.heap.size N (fun _ => none) := by rw [← hw2]; exact m0'.far (p := ⟨gc, 2, none⟩) hne _
      have m2 : IM Try.prog 3 w2.drew w.heap.size N (fun _ => none) := m1.keep rfl
      exact (m2.far (p := ⟨gc, 7, none⟩) hne _).far (p := ⟨gc, 8, none⟩) hne _
    · have k1 : Chg (fun j => j = gc) w w2 := by rw [← hw2, ← hw1]; exact ((Chg.refl (fun j => j = gc) w).alloc _).at_ rfl _
      exact (k1.drew.at_ rfl _).at_ rfl _
  clear b0 b1 b2 b3 hB m0' hlt
  have hmm := @run_makeMap Try.prog
  go_enter Try.func19, Try.ntmps19
  go_wp2_with fail
  try rw [hw2]
  refine wp_mixs (fun _ => True) [11, 15] (by kernel_rfl) (by kernel_rfl) (by kernel_rfl) (by decide) trivial ?_
  iterate 11 ((first | refine mixsq rfl rfl 0 (by decide +kernel) ?_ (fun w' hw' => Or.inl ?_) (fun K hK => ?_) | refine mixsq rfl rfl 1 (by decide +kernel) ?_ (fun w' hw' => Or.inl ?_) (fun K hK => ?_) | refine mixsq rfl rfl 2 (by decide +kernel) ?_ (fun w' hw' => Or.inl ?_) (fun K hK => ?_) | refine mixsq rfl rfl 3 (by decide +kernel) ?_ (fun w' hw' => Or.inl ?_) (fun K hK => ?_)); rotate_left; (focus (go_simp; rfl)); go_simp; refine hK _ ?_; clear hK K)
  refine mixsl rfl rfl (fun K hK => ?_)
  go_simp
  refine hK (fun _ => True) _ _ (fun _ => ⟨trivial, fun _ => trivial⟩) ?_
  clear hK K
  iterate 3 ((first | refine mixsq rfl rfl 0 (by decide +kernel) ?_ (fun w' hw' => Or.inl ?_) (fun K hK => ?_) | refine mixsq rfl rfl 1 (by decide +kernel) ?_ (fun w' hw' => Or.inl ?_) (fun K hK => ?_) | refine mixsq rfl rfl 2 (by decide +kernel) ?_ (fun w' hw' => Or.inl ?_) (fun K hK => ?_) | refine mixsq rfl rfl 3 (by decide +kernel) ?_ (fun w' hw' => Or.inl ?_) (fun K hK => ?_)); rotate_left; (focus (go_simp; rfl)); go_simp; refine hK _ ?_; clear hK K)
  refine mixsl rfl rfl (fun K hK => ?_)
  go_simp
  refine hK (fun _ => True) _ _ (fun _ => ⟨trivial, ext_all (fun _ => trivial) trivial⟩) ?_
  clear hK K
  refine mixs_nil ?_
  go_wp2
  go_end0
  exact ⟨rfl, hfin.out⟩
/-- A cache and its disk that calls made since w0. -/
def CS (w0 w : World) (gc g N : Nat) (c : Ck) (d : Dk) : Prop := ∃ mb ns S, KC w gc g mb N c d ns S ∧ Below w0.heap.size w0 w ∧ ∀ j, (S j ∨ footK gc mb ns j) → w0.heap.size ≤ j
def newC (size : Int) : Ck := ⟨size, [], 0, 0, 0⟩
def NewCO (w0 w : World) (g N : Nat) (d : Dk) (size : Int) (e : Ending) (w' : World) : Prop := ∃ gc, e = .returned (.tuple #[.pointer (some ⟨gc, 0, none⟩), .int .i64 0]) ∧ CS w0 w' gc g N (newC size) d
set_option maxRecDepth 10000 in
set_option maxHeartbeats 2000000 in
theorem NewC_calls (w0 w : World) {g N : Nat} {d : Dk} {S : Nat → Prop} (hd : DK w g d S) (hB : Below w0.heap.size w0 w) (hS : ∀ j, S j → w0.heap.size ≤ j) (size : Int) (h1 : 1 ≤ size) (h2 : size ≤ 1024) :
    Calls Try.prog 11 #[.pointer (some ⟨g, 0, none⟩), .int .i64 size] w (NewCO w0 w g N d size) := by
  obtain ⟨w1, hw1⟩ : ∃ w1, w.alloc (.cells #[.pointer (some ⟨g, 0, none⟩), .int .i64 size, .map none, .int .i64 0, .slice none 0 0, .bool false, .int .i64 0, .pointer none, .pointer none, .int .i64 0, .int .i64 0, .int .i64 0] 80) = w1 := ⟨_, rfl⟩
  have hb : Blk w1 w.heap.size 80 #[.pointer (some ⟨g, 0, none⟩), .int .i64 size, .map none, .int .i64 0, .slice none 0 0, .bool false, .int .i64 0, .pointer none, .pointer none, .int .i64 0, .int .i64 0, .int .i64 0] := by rw [← hw1]; exact Blk.new w _ _
  have hB1 : Below w.heap.size w w1 := by rw [← hw1]; exact alloc_belowK _ _
  have hD := Lib.hid (Drop_raw w1 (gc := w.heap.size) (g := g) (N := N) (c := ⟨size, [], 0, 0, 0⟩) hb)
  have hfin : Hid (∀ w', KM w' w.heap.size g w1.heap.size ⟨size, [], 0, 0, 0⟩ [] → IM Try.prog 3 w' w1.heap.size N (mfN []) → Chg (fun j => j = w.heap.size) w1 w' → NewCO w0 w g N d size (.returned (.tuple #[.pointer (some ⟨w.heap.size, 0, none⟩), .int .i64 0])) w') := fun w' hk hm hc => by
    have hBw : Below w.heap.size w w' := hB1.trans (hc.below hB1.size (fun k hk => by omega))
    refine ⟨w.heap.size, rfl, w1.heap.size, [], S, ⟨?_, hk, hm, (fun hS' => ?_), rfl, List.nodup_nil, (fun x hx => absurd hx (by simp))⟩, hB.trans (hBw.mono hB.size), (fun j hj => ?_)⟩
    · exact DKF.below hd hBw
    · have h3 := hd.lt hS'
      have := hB1.size
      omega
    · rcases hj with hj | rfl | rfl | hj
      · exact hS j hj
      · exact hB.size
      · exact Nat.le_trans hB.size hB1.size
      · exact absurd hj (by simp)
  have hwb : Hid (w1.heap.size = w1.heap.size) := rfl
  clear hb hB1 hd hB hS
  go_enter Try.func11, Try.ntmps11
  go_wp2_with fail
  refine hD.out.mono ?_
  rintro e w2 ⟨rfl, h3, h4, h5⟩
  have hf := Lib.hid (hfin.out w2 h3 h4 h5)
  clear h3 h4 h5 hfin hD hw1
  go_wp2
  go_ret2
  exact hf.out
/-- What the calls ask of the cache. -/
structure Cok (N : Nat) (c : Ck) (d : Dk) : Prop where
  dk : Dko N d
  b512 : ∀ h ∈ c.l, h.b.length = 512
theorem CS.h512 {w : World} {gc g mb N : Nat} {c : Ck} {d : Dk} {ns : List (Nat × Hd)} {S : Nat → Prop} (h : KC w gc g mb N c d ns S) (hc : Cok N c d) : ∀ x ∈ ns, x.2.b.length = 512 := fun x hx => hc.b512 _ (by rw [← h.cl]; exact List.mem_map.2 ⟨x, hx, rfl⟩)
theorem CS.go {w0 w w' : World} {gc g N : Nat} {c : Ck} {d : Dk} (h : CS w0 w gc g N c d) (hb : Below w.heap.size w w') : CS w0 w' gc g N c d := by
  obtain ⟨mb, ns, S, hk, hB, hS⟩ := h
  exact ⟨mb, ns, S, hk.below hb, hB.trans (hb.mono hB.size), hS⟩
theorem CS.bel {w0 w : World} {gc g N : Nat} {c : Ck} {d : Dk} (h : CS w0 w gc g N c d) : Below w0.heap.size w0 w := by
  obtain ⟨mb, ns, S, hk, hB, hS⟩ := h
  exact hB
theorem CS.to {w0 w w' : World} {gc g mb N : Nat} {c' : Ck} {d' : Dk} {ns ns' : List (Nat × Hd)} {S : Nat → Prop} (hB : Below w0.heap.size w0 w) (hS : ∀ j, (S j ∨ footK gc mb ns j) → w0.heap.size ≤ j) (h : KTo w gc g mb N ns S c' d' ns' w') : CS w0 w' gc g N c' d' := by
  obtain ⟨S', hk, hc, hs⟩ := h
  refine ⟨mb, ns', S', hk, hB.trans (hc.below hB.size hS), fun j hj => ?_⟩
  rcases hs j hj with e | e
  · exact hS j e
  · exact Nat.le_trans hB.size e
/-- Rows of a caller's own stay. -/
def Keep (w w' : World) : Prop := w.heap.size ≤ w'.heap.size ∧ ∀ k t cs, Blk w k t cs → ¬ kindK t → t ≠ 74 → t ≠ 31 → Blk w' k t cs
theorem Keep.of_below {w w' : World} (h : Below w.heap.size w w') : Keep w w' := ⟨h.size, fun k t cs hb _ _ _ => (h.block k hb.lt).trans hb⟩
theorem Keep.trans {a b c : World} (h : Keep a b) (h2 : Keep b c) : Keep a c := ⟨Nat.le_trans h.1 h2.1, fun k t cs hb h3 h4 h5 => h2.2 k t cs (h.2 k t cs hb h3 h4 h5) h3 h4 h5⟩
theorem KTo.keep {w w' : World} {gc g mb N : Nat} {c c' : Ck} {d d' : Dk} {ns ns' : List (Nat × Hd)} {S : Nat → Prop} (hk : KC w gc g mb N c d ns S) (h : KTo w gc g mb N ns S c' d' ns' w') : Keep w w' := by
  obtain ⟨S', _, hc, _⟩ := h
  refine ⟨hc.size, fun k t cs hb h1 h2 h3 => hb.chg hc (fun e => ?_)⟩
  rcases e with e | e
  · rcases hk.dk.kind e hb with e | e
    · exact h2 e
    · exact h3 e
  · exact hk.notk hb h1 e
theorem RdT.keep {w w' : World} {t : TypeId} {v : Value} {us : List Value} (h : RdT (fun _ => True) t w v us) (hk : Keep w w') (h1 : ¬ kindK t) (h2 : t ≠ 74) (h3 : t ≠ 31) : RdT (fun _ => True) t w' v us := by
  by_cases hu : us = []
  · subst hu
    exact ⟨h.1.empty _, fun h => absurd rfl h⟩
  · obtain ⟨k, cs, e, hb, hF⟩ := h.2 hu
    have hb' := hk.2 k t cs hb h1 h2 h3
    refine ⟨h.1.keep (fun j hj hlt => ?_), fun _ => ⟨k, cs, e, hb', hF⟩⟩
    rw [e] at hj
    cases hj
    unfold Blk at hb hb'
    rw [hb, hb']
def GetR (o : Int × Ck × Dk) (e : Ending) (w' : World) : Prop := (o.1 = 0 ∧ ∃ h r v, o.2.1.l = h :: r ∧ e = .returned (.tuple #[v, .int .i64 0]) ∧ Own8 w' v h.b) ∨ (o.1 ≠ 0 ∧ e = .returned (.tuple #[.slice none 0 0, .int .i64 o.1]))
namespace CS
variable {w0 w : World} {gc g N : Nat} {c : Ck} {d : Dk}
theorem get (h : CS w0 w gc g N c d) (hN : N ≤ 16384) (hc : Cok N c d) (n : Int) (hbl : ∀ x ∈ (getP c d N n).2.1.l, x.b.length ≤ 1000000000) :
    Calls Try.prog 12 #[.pointer (some ⟨gc, 0, none⟩), .int .i64 n] w fun e w' => CS w0 w' gc g N (getP c d N n).2.1 (getP c d N n).2.2 ∧ GetR (getP c d N n) e w' ∧ Keep w w' := by
  obtain ⟨mb, ns, S, hk, hB, hS⟩ := h
  refine (Get_calls w hk hN hc.dk (CS.h512 hk hc) n hbl).mono ?_
  rintro e w' ⟨ns', hto, hr⟩
  exact ⟨CS.to hB hS hto, hr, hto.keep hk⟩
theorem pin (h : CS w0 w gc g N c d) (hN : N ≤ 16384) (hc : Cok N c d) (n : Int) :
    Calls Try.prog 15 #[.pointer (some ⟨gc, 0, none⟩), .int .i64 n] w fun e w' => e = .returned (.int .i64 (pinP c d N n).1) ∧ CS w0 w' gc g N (pinP c d N n).2.1 (pinP c d N n).2.2 ∧ Keep w w' := by
  obtain ⟨mb, ns, S, hk, hB, hS⟩ := h
  refine (Pin_calls w hk hN hc.dk (CS.h512 hk hc) n).mono ?_
  rintro e w' ⟨rfl, ns', hto⟩
  exact ⟨rfl, CS.to hB hS hto, hto.keep hk⟩
theorem put (h : CS w0 w gc g N c d) (hN : N ≤ 16384) (hc : Cok N c d) (n : Int) (x : Value) (b : List UInt8) (hx : RdT (fun _ => True) 5 w x (bvs b)) :
    Calls Try.prog 16 #[.pointer (some ⟨gc, 0, none⟩), .int .i64 n, x] w fun e w' => e = .returned (.int .i64 (putP c d N n b).1) ∧ CS w0 w' gc g N (putP c d N n b).2.1 (putP c d N n b).2.2 ∧ Keep w w' := by
  obtain ⟨mb, ns, S, hk, hB, hS⟩ := h
  refine (Put_calls w hk hN hc.dk (CS.h512 hk hc) n x b hx).mono ?_
  rintro e w' ⟨rfl, ns', hto⟩
  exact ⟨rfl, CS.to hB hS hto, hto.keep hk⟩
theorem held (h : CS w0 w gc g N c d) (hN : N ≤ 16384) :
    Calls Try.prog 13 #[.pointer (some ⟨gc, 0, none⟩)] w fun e w' => WhOut w (heldL c N) e w' ∧ CS w0 w' gc g N c d := by
  have h0 := h
  obtain ⟨mb, ns, S, hk, hB, hS⟩ := h
  refine (Held_calls w hk hN).mono ?_
  rintro e w' ⟨v, rfl, h1, h2⟩
  exact ⟨⟨v, rfl, h1, h2⟩, h0.go h2⟩
theorem dirty (h : CS w0 w gc g N c d) (hN : N ≤ 16384) :
    Calls Try.prog 20 #[.pointer (some ⟨gc, 0, none⟩)] w fun e w' => WhOut w (dirtyL c N) e w' ∧ CS w0 w' gc g N c d := by
  have h0 := h
  obtain ⟨mb, ns, S, hk, hB, hS⟩ := h
  refine (Dirty_calls w hk hN).mono ?_
  rintro e w' ⟨v, rfl, h1, h2⟩
  exact ⟨⟨v, rfl, h1, h2⟩, h0.go h2⟩
theorem stats (h : CS w0 w gc g N c d) :
    Calls Try.prog 14 #[.pointer (some ⟨gc, 0, none⟩)] w fun e w' => e = .returned (.tuple #[.int .i64 c.hits, .int .i64 c.misses, .int .i64 c.evs]) ∧ CS w0 w' gc g N c d ∧ Below w.heap.size w w' := by
  have h0 := h
  obtain ⟨mb, ns, S, hk, hB, hS⟩ := h
  refine (Stats_calls w hk).mono ?_
  rintro e w' ⟨rfl, rfl⟩
  exact ⟨rfl, h0.go (drew_below w), drew_below w⟩
theorem drop (h : CS w0 w gc g N c d) :
    Calls Try.prog 19 #[.pointer (some ⟨gc, 0, none⟩)] w fun e w' => e = .returned (.tuple #[]) ∧ CS w0 w' gc g N ⟨c.size, [], c.hits, c.misses, c.evs⟩ d := by
  obtain ⟨mb, ns, S, hk, hB, hS⟩ := h
  obtain ⟨p, q, hBk⟩ := hk.km.cb
  refine (Drop_raw (N := N) w hBk).mono ?_
  rintro e w' ⟨rfl, k1, m1, c1⟩
  have hgc : w0.heap.size ≤ gc := hS gc (.inr (.inl rfl))
  refine ⟨rfl, w.heap.size, [], S, ⟨?_, k1, m1, (fun hS' => ?_), rfl, List.nodup_nil, (fun x hx => absurd hx (by simp))⟩, hB.trans (c1.below hB.size (fun j hj => by omega)), (fun j hj => ?_)⟩
  · refine DKF.chg hk.dk c1 (fun j hS hF => ?_) (fun j cs hb hF => ?_) (fun j cs hb hF => ?_)
    · exact hk.notS (.inl hF) hS
    · exact hk.notk hb (fun hk => (kindK_ne hk).2.2.1 rfl) (.inl hF)
    · exact hk.notk hb (fun hk => (kindK_ne hk).2.2.2.1 rfl) (.inl hF)
  · have := hk.dk.lt hS'; omega
  · rcases hj with hj | rfl | rfl | hj
    · exact hS j (.inl hj)
    · exact hgc
    · exact hB.size
    · exact absurd hj (by simp)
end CS
end Go.Proofs.Ytfapehgjiglflaa
