/- The log: a transaction begins, ends; what it tells. -/
import Derived.Test.YtlfbfmeppcicnaaWl
import Derived.Defers
namespace Go.Proofs.Ytlfbfmeppcicnaa
open Go.RowKit
variable {F : Nat → Prop}
theorem LO.chgT {w w' : World} {gl g : Nat} {S S2 : Nat → Prop} {x : Lk} (h : LO w gl g x S F) (hb : Chg S2 w w') (hS : ∀ k, S k → ¬ S2 k) (h8 : ∀ k cs, Blk w k 5 cs → ¬ S2 k) (hi : ∀ k cs, Blk w k 3 cs → ¬ S2 k) : LO w' gl g x S F := by
  obtain ⟨mb, mf, Sd, h, hs⟩ := h
  exact ⟨mb, mf, Sd, ⟨h.blk.chg hb (hS _ ((hs _).2 (.inr (.inl rfl)))), h.dk.chgT hb (fun k hk => hS k ((hs k).2 (.inl hk))) h8 hi, h.mp.chg hb (hS _ ((hs _).2 (.inr (.inr rfl)))) h8, h.ng, h.nm⟩, hs⟩
namespace TX
variable {w w' : World} {gt gl N : Nat} {t : Tk} {ST FT S2 : Nat → Prop}
theorem chgT (h : TX w gt gl N t ST FT) (hb : Chg S2 w w') (hS : ∀ k, ST k → ¬ S2 k) (h8 : ∀ k cs, Blk w k 5 cs → ¬ S2 k) : TX w' gt gl N t ST FT := by
  obtain ⟨mt, mf, h1, h2, h3⟩ := h
  exact ⟨mt, mf, ⟨h1.blk.chg hb (hS _ ((h2 _).2 (.inl rfl))), h1.mp.chg hb (hS _ ((h2 _).2 (.inr rfl))) h8⟩, h2, fun k hk => Nat.lt_of_lt_of_le (h3 k hk) hb.size⟩
theorem chgF (h : TX w gt gl N t ST FT) (hb : Chg S2 w w') (hS : ∀ k, ST k → ¬ S2 k) (hF : ∀ k, FT k → ¬ S2 k) : TX w' gt gl N t ST FT := by
  obtain ⟨mt, mf, h1, h2, h3⟩ := h
  exact ⟨mt, mf, ⟨h1.blk.chg hb (hS _ ((h2 _).2 (.inl rfl))), h1.mp.chgF hb (hS _ ((h2 _).2 (.inr rfl))) hF⟩, h2, fun k hk => Nat.lt_of_lt_of_le (h3 k hk) hb.size⟩
theorem lt (h : TX w gt gl N t ST FT) {k : Nat} (hk : ST k) : k < w.heap.size := by
  obtain ⟨mt, mf, h1, h2, _⟩ := h
  rcases (h2 k).1 hk with rfl | rfl
  · exact h1.blk.lt
  · exact h1.mp.im.lt
theorem below (h : TX w gt gl N t ST FT) (hb : Below w.heap.size w w') : TX w' gt gl N t ST FT :=
  h.chgT (S2 := fun k => w.heap.size ≤ k) ((Chg.of_below hb).mono (fun _ _ h => h)) (fun k hk => Nat.not_le.2 (h.lt hk)) (fun k cs hk => Nat.not_le.2 hk.lt)
theorem not8 (h : TX w gt gl N t ST FT) : ∀ k cs, Blk w k 5 cs → ¬ ST k := fun k cs hk hS => by
  obtain ⟨mt, mf, h1, h2, _⟩ := h
  rcases (h2 k).1 hS with rfl | rfl
  · exact absurd rfl (hk.ne_ h1.blk (by decide))
  · exact absurd rfl (h1.mp.im.blk_ne hk)
theorem noti (h : TX w gt gl N t ST FT) : ∀ k cs, Blk w k 3 cs → ¬ ST k := fun k cs hk hS => by
  obtain ⟨mt, mf, h1, h2, _⟩ := h
  rcases (h2 k).1 hS with rfl | rfl
  · exact absurd rfl (hk.ne_ h1.blk (by decide))
  · exact absurd rfl (h1.mp.im.blk_ne hk)
end TX
def BeginOut (w : World) (S F : Nat → Prop) (gl g : Nat) (x : Lk) (e : Ending) (w' : World) : Prop :=
  (x.d.off = true ∧ e = .returned (.tuple #[.pointer none, .int .i64 6]) ∧ w = w') ∨
  (x.d.off = false ∧ x.op = true ∧ e = .returned (.tuple #[.pointer none, .int .i64 15]) ∧ w = w') ∨
  (x.d.off = false ∧ x.op = false ∧ ∃ gt, e = .returned (.tuple #[.pointer (some ⟨gt, 0, none⟩), .int .i64 0]) ∧ LO w' gl g ⟨x.d, x.wt, x.pn, true⟩ S F ∧ Chg S w w' ∧ ∃ ST, TX w' gt gl (x.d.l.length - 65) ⟨fun _ => none, false⟩ ST (fun _ => False) ∧ ∀ k, ST k → w.heap.size ≤ k)
theorem LO.open_ {w : World} {gl g : Nat} {x : Lk} {S : Nat → Prop} (h : LO w gl g x S F) (b : Bool) : LO (w.setCell ⟨gl, 3, none⟩ (.bool b)) gl g ⟨x.d, x.wt, x.pn, b⟩ S F ∧ Chg (fun k => k = gl) w (w.setCell ⟨gl, 3, none⟩ (.bool b)) := by
  obtain ⟨mb, mf, Sd, hL, hs⟩ := h
  have hc : Chg (fun k => k = gl) w (w.setCell ⟨gl, 3, none⟩ (.bool b)) := chg_set ⟨gl, 3, none⟩ _
  have hne : ∀ k t cs, Blk w k t cs → t ≠ 88 → ¬ k = gl := fun k t cs hb ht => hb.ne_ hL.blk ht
  exact ⟨⟨mb, mf, Sd, ⟨hL.blk.set_ 3 _, hL.dk.chgT hc (fun j hj e => hL.ng (e ▸ hj)) (fun k cs hb => hne k _ cs hb (by decide)) (fun k cs hb => hne k _ cs hb (by decide)), hL.mp.chg hc (fun e => hL.ne e.symm) (fun k cs hb => hne k _ cs hb (by decide)), hL.ng, hL.nm⟩, hs⟩, hc⟩
set_option maxRecDepth 10000 in
set_option maxHeartbeats 4000000 in
theorem Begin_calls (w : World) {gl g : Nat} {x : Lk} {S : Nat → Prop} (h : LO w gl g x S F) : Calls Try.prog 17 #[.pointer (some ⟨gl, 0, none⟩)] w (BeginOut w S F gl g x) := by
  have hh := Lib.hid h
  obtain ⟨mb, mf, Sd, hL, hs⟩ := h
  have c0 : w.cell? ⟨gl, 0, none⟩ = some (.pointer (some ⟨g, 0, none⟩)) := hL.blk.cell 0
  have c3 : w.cell? ⟨gl, 3, none⟩ = some (.bool x.op) := hL.blk.cell 3
  have z3 : w.frozen? ⟨gl, 3, none⟩ = false := hL.blk.frozen 3
  have hO := Lib.hid (Off_callsO w g x.d Sd hL.dk)
  have hSg : Hid (S gl ∧ gl < w.heap.size) := ⟨(hs gl).2 (.inr (.inl rfl)), hL.blk.lt⟩
  clear hL hs
  cases hof : x.d.off with
  | true =>
    rw [hof] at hO
    have hfin : Hid (BeginOut w S F gl g x (.returned (.tuple #[.pointer none, .int .i64 6])) w) := .inl ⟨hof, rfl, rfl⟩
    clear hof
    go_enter Try.func17, Try.ntmps17
    go_wp2_with fail
    refine hO.out.mono ?_
    rintro e w1 ⟨rfl, rfl⟩
    clear hO
    go_wp2
    go_ret2
    exact hfin.out
  | false =>
    rw [hof] at hO
    have hof := Lib.hid hof
    cases hop : x.op with
    | true =>
      rw [hop] at c3
      have hfin : Hid (BeginOut w S F gl g x (.returned (.tuple #[.pointer none, .int .i64 15])) w) := .inr (.inl ⟨hof.out, hop, rfl, rfl⟩)
      clear hop
      go_enter Try.func17, Try.ntmps17
      go_wp2_with fail
      refine hO.out.mono ?_
      rintro e w1 ⟨rfl, rfl⟩
      clear hO
      go_wp2
      go_ret2
      exact hfin.out
    | false =>
      rw [hop] at c3
      have hfin : Hid (∀ w', w' = ((w.setCell ⟨gl, 3, none⟩ (.bool true)).alloc (.map #[] 0)).alloc (.cells #[.pointer (some ⟨gl, 0, none⟩), .map (some w.heap.size), .bool false] 90) → BeginOut w S F gl g x (.returned (.tuple #[.pointer (some ⟨w.heap.size + 1, 0, none⟩), .int .i64 0])) w') := fun w' e => by
        subst e
        obtain ⟨h1, hc1⟩ := hh.out.open_ true
        have hs1 : (w.setCell ⟨gl, 3, none⟩ (.bool true)).heap.size = w.heap.size := by simp [World.setCell]
        generalize hw1 : w.setCell ⟨gl, 3, none⟩ (.bool true) = w1 at *
        have hs2 : (w1.alloc (.map #[] 0)).heap.size = w.heap.size + 1 := by rw [World.size_alloc, hs1]
        have hB : Below w1.heap.size w1 ((w1.alloc (.map #[] 0)).alloc (.cells #[.pointer (some ⟨gl, 0, none⟩), .map (some w.heap.size), .bool false] 90)) := ((Below.refl _ _).alloc (Nat.le_refl _) _).alloc (by omega) _
        refine .inr (.inr ⟨hof.out, hop, _, rfl, h1.below hB, ?_, fun k => k = w.heap.size + 1 ∨ k = w.heap.size, ⟨w.heap.size, fun _ => none, ⟨?_, ?_⟩, fun k => Iff.rfl, fun k hk => hk.elim⟩, fun k hk => by rcases hk with rfl | rfl <;> omega⟩)
        · exact (hc1.mono (fun k _ hk => hk ▸ hSg.out.1)).then_ (S' := fun _ => False) (Chg.of_below hB) (fun _ _ h => h.elim)
        · have := Blk.new (w1.alloc (.map #[] 0)) 90 #[.pointer (some ⟨gl, 0, none⟩), .map (some w.heap.size), .bool false]
          rw [hs2] at this
          exact this
        · have := (MBv.made (fun _ => False) w1 (x.d.l.length - 65)).below ((Below.refl _ _).alloc (Nat.le_refl _) (.cells #[.pointer (some ⟨gl, 0, none⟩), .map (some w.heap.size), .bool false] 90))
          rw [hs1] at this
          exact this
      have hmm := @run_makeMap Try.prog
      clear hop hof hh
      go_enter Try.func17, Try.ntmps17
      go_wp2_with fail
      refine hO.out.mono ?_
      rintro e w1 ⟨rfl, rfl⟩
      clear hO
      go_wp2
      go_ret2
      exact hfin.out _ rfl
/-- What the end of a transaction leaves. -/
def EndOut (w : World) (S F ST FT : Nat → Prop) (gl g gt N : Nat) (x : Lk) (t : Tk) (w' : World) : Prop :=
  LO w' gl g ⟨x.d, x.wt, x.pn, if t.ov = true then x.op else false⟩ S F ∧ TX w' gt gl N ⟨t.m, true⟩ ST FT ∧ Chg (fun k => S k ∨ ST k) w w'
theorem EndOut.over {w : World} {S ST FT : Nat → Prop} {gl g gt N : Nat} {x : Lk} {t : Tk} (h : LO w gl g x S F) (ht : TX w gt gl N t ST FT) (ho : t.ov = true) : EndOut w S F ST FT gl g gt N x t w := by
  unfold EndOut
  rw [if_pos ho]
  refine ⟨h, ?_, Chg.refl _ _⟩
  obtain ⟨m, ov⟩ := t
  simp only at ho
  subst ho
  exact ht
theorem EndOut.now {w : World} {S ST FT : Nat → Prop} {gl g gt N : Nat} {x : Lk} {t : Tk} (h : LO w gl g x S F) (ht : TX w gt gl N t ST FT) (hd : ∀ k, S k → ¬ ST k) (ho : t.ov = false) : EndOut w S F ST FT gl g gt N x t ((w.setCell ⟨gt, 2, none⟩ (.bool true)).setCell ⟨gl, 3, none⟩ (.bool false)) := by
  unfold EndOut
  rw [if_neg (by simp [ho])]
  obtain ⟨mt, mf, h1, h2, h3⟩ := ht
  have hc : Chg (fun k => k = gt) w (w.setCell ⟨gt, 2, none⟩ (.bool true)) := chg_set ⟨gt, 2, none⟩ _
  have hne : ∀ k t cs, Blk w k t cs → t ≠ 90 → ¬ k = gt := fun k t cs hb ht => hb.ne_ h1.blk ht
  have hL1 : LO (w.setCell ⟨gt, 2, none⟩ (.bool true)) gl g x S F := h.chgT hc (fun k hk e => hd k hk ((h2 k).2 (.inl e))) (fun k cs hb => hne k _ cs hb (by decide)) (fun k cs hb => hne k _ cs hb (by decide))
  have hT1 : TX (w.setCell ⟨gt, 2, none⟩ (.bool true)) gt gl N ⟨t.m, true⟩ ST FT := ⟨mt, mf, ⟨h1.blk.set_ 2 _, h1.mp.chg hc (fun e => (h1.mp.im.blk_ne h1.blk) e.symm) (fun k cs hb => hne k _ cs hb (by decide))⟩, h2, fun k hk => Nat.lt_of_lt_of_le (h3 k hk) hc.size⟩
  obtain ⟨hL2, hc2⟩ := hL1.open_ false
  have hgS : S gl := by
    obtain ⟨mb, mf, Sd, hL, hs⟩ := h
    exact (hs gl).2 (.inr (.inl rfl))
  refine ⟨hL2, hT1.chgT hc2 (fun k hk e => hd k (e ▸ hgS) hk) (fun k cs hb e => hL1.not8 k cs hb (e ▸ hgS)), ?_⟩
  exact (hc.mono (fun k _ hk => .inr ((h2 k).2 (.inl hk)))).then_ hc2 (fun i _ hi => .inl (hi ▸ hgS))
def TxFacts (w : World) (gl gt g : Nat) (x : Lk) (t : Tk) : Prop := w.cell? ⟨gt, 0, none⟩ = some (.pointer (some ⟨gl, 0, none⟩)) ∧ w.cell? ⟨gt, 2, none⟩ = some (.bool t.ov) ∧ w.frozen? ⟨gt, 2, none⟩ = false ∧ w.cell? ⟨gl, 0, none⟩ = some (.pointer (some ⟨g, 0, none⟩)) ∧ w.cell? ⟨gl, 3, none⟩ = some (.bool x.op) ∧ w.frozen? ⟨gl, 3, none⟩ = false ∧ gt ≠ gl
theorem txFacts {w : World} {S ST FT : Nat → Prop} {gl g gt N : Nat} {x : Lk} {t : Tk} (h : LO w gl g x S F) (ht : TX w gt gl N t ST FT) : TxFacts w gl gt g x t := by
  obtain ⟨mb, mf, Sd, hL, hs⟩ := h
  obtain ⟨mt, mf, h1, h2, h3⟩ := ht
  exact ⟨h1.blk.cell 0, h1.blk.cell 2, h1.blk.frozen 2, hL.blk.cell 0, hL.blk.cell 3, hL.blk.frozen 3, h1.blk.ne_ hL.blk (by decide)⟩
set_option maxRecDepth 10000 in
set_option maxHeartbeats 4000000 in
theorem end_calls (w : World) {S ST FT : Nat → Prop} {gl g gt N : Nat} {x : Lk} {t : Tk} (h : LO w gl g x S F) (ht : TX w gt gl N t ST FT) (hd : ∀ k, S k → ¬ ST k) :
    Calls Try.prog 47 #[.pointer (some ⟨gt, 0, none⟩)] w fun e w' => e = .returned (.tuple #[]) ∧ EndOut w S F ST FT gl g gt N x t w' := by
  obtain ⟨a0, a2, z2, b0, b3, y3, hne⟩ := txFacts h ht
  have hO := Lib.hid (fun ho => EndOut.over h ht ho)
  have hN := Lib.hid (fun ho => EndOut.now h ht hd ho)
  clear h ht hd
  cases hov : t.ov with
  | true =>
    rw [hov] at a2
    have hfin := Lib.hid (hO.out hov)
    clear hO hN hov
    go_enter Try.func47, Try.ntmps47
    go_wp2
    go_end0
    exact ⟨rfl, hfin.out⟩
  | false =>
    rw [hov] at a2
    have hfin := Lib.hid (hN.out hov)
    clear hO hN hov
    go_enter Try.func47, Try.ntmps47
    go_wp2
    go_end0
    exact ⟨rfl, hfin.out⟩
set_option maxRecDepth 10000 in
set_option maxHeartbeats 4000000 in
theorem end_callsD (u : FrameMode) (w : World) {S ST FT : Nat → Prop} {gl g gt N : Nat} {x : Lk} {t : Tk} (h : LO w gl g x S F) (ht : TX w gt gl N t ST FT) (hd : ∀ k, S k → ¬ ST k) :
    CallsD Try.prog 47 #[.pointer (some ⟨gt, 0, none⟩)] u w fun e u' w' => u' = u ∧ (e = .returned (.tuple #[]) ∧ EndOut w S F ST FT gl g gt N x t w') := by
  obtain ⟨a0, a2, z2, b0, b3, y3, hne⟩ := txFacts h ht
  have hO := Lib.hid (fun ho => EndOut.over h ht ho)
  have hN := Lib.hid (fun ho => EndOut.now h ht hd ho)
  clear h ht hd
  cases hov : t.ov with
  | true =>
    rw [hov] at a2
    have hfin := Lib.hid (hO.out hov)
    clear hO hN hov
    go_enter_d Try.func47, Try.ntmps47
    go_wp2
    go_end0
    exact ⟨rfl, hfin.out⟩
  | false =>
    rw [hov] at a2
    have hfin := Lib.hid (hN.out hov)
    clear hO hN hov
    go_enter_d Try.func47, Try.ntmps47
    go_wp2
    go_end0
    exact ⟨rfl, hfin.out⟩
end Go.Proofs.Ytlfbfmeppcicnaa
