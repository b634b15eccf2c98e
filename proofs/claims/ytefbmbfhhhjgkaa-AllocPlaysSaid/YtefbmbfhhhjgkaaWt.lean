/- The log: a transaction begins, ends; what it tells. The log: a transaction's Writes, Read, Write. Printed by genwt.py. -/
import Derived.Test.YtefbmbfhhhjgkaaWl
import Derived.Defers
namespace Go.Proofs.Ytefbmbfhhhjgkaa
open Go.RowKit
variable {F : Nat → Prop}
theorem LO.chgT {w w' : World} {gl g : Nat} {S S2 : Nat → Prop} {x : Lk} (h : LO w gl g x S F) (hb : Chg S2 w w') (hS : ∀ k, S k → ¬ S2 k) (h8 : ∀ k cs, Blk w k 5 cs → ¬ S2 k) (hi : ∀ k cs, Blk w k 3 cs → ¬ S2 k) : LO w' gl g x S F := by
  obtain ⟨mb, mf, Sd, h, hs⟩ := h
  exact ⟨mb, mf, Sd, ⟨h.blk.chg hb (hS _ ((hs _).2 (.inr (.inl rfl)))), h.dk.chgT hb (fun k hk => hS k ((hs k).2 (.inl hk))) h8 hi, h.mp.chg hb (hS _ ((hs _).2 (.inr (.inr rfl)))) h8, h.ng, h.nm⟩, hs⟩
namespace TX
variable {w w' : World} {gt gl N : Nat} {t : Tk} {ST FT S2 : Nat → Prop}
theorem chgT (h : TX w gt gl N t ST FT) (hb : Chg S2 w w') (hS : ∀ k, ST k → ¬ S2 k) (h8 : ∀ k cs, Blk w k 5 cs → ¬ S2 k) : TX w' gt gl N t ST FT := by
  obtain ⟨mt, mf, h1, h2, h3⟩ := h
  exact ⟨mt, mf, ⟨h1.blk.chg hb (hS _ ((h2 _).2 (.inl rfl))), h1.mp.chg hb (hS _ ((h2 _).2 (.inr rfl))) h8⟩, h2, fun k hk => Nat.lt_of_lt_of_le (h3 k hk) hb.size⟩
theorem chgF (h : TX w gt gl N t ST FT) (hb : Chg S2 w w') (hS : ∀ k, ST k → ¬ S2 k) (hF : ∀ k, FT k → ¬ S2 k) : TX w' gt gl N t ST FT := by
  obtain ⟨mt, mf, h1, h2, h3⟩ := h
  exact ⟨mt, mf, ⟨h1.blk.chg hb (hS _ ((h2 _).2 (.inl rfl))), h1.mp.chgF hb (hS _ ((h2 _).2 (.inr rfl))) hF⟩, h2, fun k hk => Nat.lt_of_lt_of_le (h3 k hk) hb.size⟩
theorem lt (h : TX w gt gl N t ST FT) {k : Nat} (hk : ST k) : k < w.heap.size := by
  obtain ⟨mt, mf, h1, h2, _⟩ := h
  rcases (h2 k).1 hk with rfl | rfl
  · exact h1.blk.lt
  · exact h1.mp.im.lt
theorem below (h : TX w gt gl N t ST FT) (hb : Below w.heap.size w w') : TX w' gt gl N t ST FT :=
  h.chgT (S2 := fun k => w.heap.size ≤ k) ((Chg.of_below hb).mono (fun _ _ h => h)) (fun k hk => Nat.not_le.2 (h.lt hk)) (fun k cs hk => Nat.not_le.2 hk.lt)
theorem not8 (h : TX w gt gl N t ST FT) : ∀ k cs, Blk w k 5 cs → ¬ ST k := fun k cs hk hS => by
  obtain ⟨mt, mf, h1, h2, _⟩ := h
  rcases (h2 k).1 hS with rfl | rfl
  · exact absurd rfl (hk.ne_ h1.blk (by decide))
  · exact absurd rfl (h1.mp.im.blk_ne hk)
theorem noti (h : TX w gt gl N t ST FT) : ∀ k cs, Blk w k 3 cs → ¬ ST k := fun k cs hk hS => by
  obtain ⟨mt, mf, h1, h2, _⟩ := h
  rcases (h2 k).1 hS with rfl | rfl
  · exact absurd rfl (hk.ne_ h1.blk (by decide))
  · exact absurd rfl (h1.mp.im.blk_ne hk)
end TX
def BeginOut (w : World) (S F : Nat → Prop) (gl g : Nat) (x : Lk) (e : Ending) (w' : World) : Prop :=
  (x.d.off = true ∧ e = .returned (.tuple #[.pointer none, .int .i64 6]) ∧ w = w') ∨
  (x.d.off = false ∧ x.op = true ∧ e = .returned (.tuple #[.pointer none, .int .i64 15]) ∧ w = w') ∨
  (x.d.off = false ∧ x.op = false ∧ ∃ gt, e = .returned (.tuple #[.pointer (some ⟨gt, 0, none⟩), .int .i64 0]) ∧ LO w' gl g ⟨x.d, x.wt, x.pn, true⟩ S F ∧ Chg S w w' ∧ ∃ ST, TX w' gt gl (x.d.l.length - 65) ⟨fun _ => none, false⟩ ST (fun _ => False) ∧ ∀ k, ST k → w.heap.size ≤ k)
theorem LO.open_ {w : World} {gl g : Nat} {x : Lk} {S : Nat → Prop} (h : LO w gl g x S F) (b : Bool) : LO (w.setCell ⟨gl, 3, none⟩ (.bool b)) gl g ⟨x.d, x.wt, x.pn, b⟩ S F ∧ Chg (fun k => k = gl) w (w.setCell ⟨gl, 3, none⟩ (.bool b)) := by
  obtain ⟨mb, mf, Sd, hL, hs⟩ := h
  have hc : Chg (fun k => k = gl) w (w.setCell ⟨gl, 3, none⟩ (.bool b)) := chg_set ⟨gl, 3, none⟩ _
  have hne : ∀ k t cs, Blk w k t cs → t ≠ 74 → ¬ k = gl := fun k t cs hb ht => hb.ne_ hL.blk ht
  exact ⟨⟨mb, mf, Sd, ⟨hL.blk.set_ 3 _, hL.dk.chgT hc (fun j hj e => hL.ng (e ▸ hj)) (fun k cs hb => hne k _ cs hb (by decide)) (fun k cs hb => hne k _ cs hb (by decide)), hL.mp.chg hc (fun e => hL.ne e.symm) (fun k cs hb => hne k _ cs hb (by decide)), hL.ng, hL.nm⟩, hs⟩, hc⟩
set_option maxRecDepth 10000 in
set_option maxHeartbeats 4000000 in
theorem Begin_calls (w : World) {gl g : Nat} {x : Lk} {S : Nat → Prop} (h : LO w gl g x S F) : Calls Try.prog 20 #[.pointer (some ⟨gl, 0, none⟩)] w (BeginOut w S F gl g x) := by
  have hh := Lib.hid h
  obtain ⟨mb, mf, Sd, hL, hs⟩ := h
  have c0 : w.cell? ⟨gl, 0, none⟩ = some (.pointer (some ⟨g, 0, none⟩)) := hL.blk.cell 0
  have c3 : w.cell? ⟨gl, 3, none⟩ = some (.bool x.op) := hL.blk.cell 3
  have z3 : w.frozen? ⟨gl, 3, none⟩ = false := hL.blk.frozen 3
  have hO := Lib.hid (Off_callsO w g x.d Sd hL.dk)
  have hSg : Hid (S gl ∧ gl < w.heap.size) := ⟨(hs gl).2 (.inr (.inl rfl)), hL.blk.lt⟩
  clear hL hs
  cases hof : x.d.off with
  | true =>
    rw [hof] at hO
    have hfin : Hid (BeginOut w S F gl g x (.returned (.tuple #[.pointer none, .int .i64 6])) w) := .inl ⟨hof, rfl, rfl⟩
    clear hof
    go_enter Try.func20, Try.ntmps20
    go_wp2_with fail
    refine hO.out.mono ?_
    rintro e w1 ⟨rfl, rfl⟩
    clear hO
    go_wp2
    go_ret2
    exact hfin.out
  | false =>
    rw [hof] at hO
    have hof := Lib.hid hof
    cases hop : x.op with
    | true =>
      rw [hop] at c3
      have hfin : Hid (BeginOut w S F gl g x (.returned (.tuple #[.pointer none, .int .i64 15])) w) := .inr (.inl ⟨hof.out, hop, rfl, rfl⟩)
      clear hop
      go_enter Try.func20, Try.ntmps20
      go_wp2_with fail
      refine hO.out.mono ?_
      rintro e w1 ⟨rfl, rfl⟩
      clear hO
      go_wp2
      go_ret2
      exact hfin.out
    | false =>
      rw [hop] at c3
      have hfin : Hid (∀ w', w' = ((w.setCell ⟨gl, 3, none⟩ (.bool true)).alloc (.map #[] 0)).alloc (.cells #[.pointer (some ⟨gl, 0, none⟩), .map (some w.heap.size), .bool false] 76) → BeginOut w S F gl g x (.returned (.tuple #[.pointer (some ⟨w.heap.size + 1, 0, none⟩), .int .i64 0])) w') := fun w' e => by
        subst e
        obtain ⟨h1, hc1⟩ := hh.out.open_ true
        have hs1 : (w.setCell ⟨gl, 3, none⟩ (.bool true)).heap.size = w.heap.size := by simp [World.setCell]
        generalize hw1 : w.setCell ⟨gl, 3, none⟩ (.bool true) = w1 at *
        have hs2 : (w1.alloc (.map #[] 0)).heap.size = w.heap.size + 1 := by rw [World.size_alloc, hs1]
        have hB : Below w1.heap.size w1 ((w1.alloc (.map #[] 0)).alloc (.cells #[.pointer (some ⟨gl, 0, none⟩), .map (some w.heap.size), .bool false] 76)) := ((Below.refl _ _).alloc (Nat.le_refl _) _).alloc (by omega) _
        refine .inr (.inr ⟨hof.out, hop, _, rfl, h1.below hB, ?_, fun k => k = w.heap.size + 1 ∨ k = w.heap.size, ⟨w.heap.size, fun _ => none, ⟨?_, ?_⟩, fun k => Iff.rfl, fun k hk => hk.elim⟩, fun k hk => by rcases hk with rfl | rfl <;> omega⟩)
        · exact (hc1.mono (fun k _ hk => hk ▸ hSg.out.1)).then_ (S' := fun _ => False) (Chg.of_below hB) (fun _ _ h => h.elim)
        · have := Blk.new (w1.alloc (.map #[] 0)) 76 #[.pointer (some ⟨gl, 0, none⟩), .map (some w.heap.size), .bool false]
          rw [hs2] at this
          exact this
        · have := (MBv.made (fun _ => False) w1 (x.d.l.length - 65)).below ((Below.refl _ _).alloc (Nat.le_refl _) (.cells #[.pointer (some ⟨gl, 0, none⟩), .map (some w.heap.size), .bool false] 76))
          rw [hs1] at this
          exact this
      have hmm := @run_makeMap Try.prog
      clear hop hof hh
      go_enter Try.func20, Try.ntmps20
      go_wp2_with fail
      refine hO.out.mono ?_
      rintro e w1 ⟨rfl, rfl⟩
      clear hO
      go_wp2
      go_ret2
      exact hfin.out _ rfl
/-- What the end of a transaction leaves. -/
def EndOut (w : World) (S F ST FT : Nat → Prop) (gl g gt N : Nat) (x : Lk) (t : Tk) (w' : World) : Prop :=
  LO w' gl g ⟨x.d, x.wt, x.pn, if t.ov = true then x.op else false⟩ S F ∧ TX w' gt gl N ⟨t.m, true⟩ ST FT ∧ Chg (fun k => S k ∨ ST k) w w'
theorem EndOut.over {w : World} {S ST FT : Nat → Prop} {gl g gt N : Nat} {x : Lk} {t : Tk} (h : LO w gl g x S F) (ht : TX w gt gl N t ST FT) (ho : t.ov = true) : EndOut w S F ST FT gl g gt N x t w := by
  unfold EndOut
  rw [if_pos ho]
  refine ⟨h, ?_, Chg.refl _ _⟩
  obtain ⟨m, ov⟩ := t
  simp only at ho
  subst ho
  exact ht
theorem EndOut.now {w : World} {S ST FT : Nat → Prop} {gl g gt N : Nat} {x : Lk} {t : Tk} (h : LO w gl g x S F) (ht : TX w gt gl N t ST FT) (hd : ∀ k, S k → ¬ ST k) (ho : t.ov = false) : EndOut w S F ST FT gl g gt N x t ((w.setCell ⟨gt, 2, none⟩ (.bool true)).setCell ⟨gl, 3, none⟩ (.bool false)) := by
  unfold EndOut
  rw [if_neg (by simp [ho])]
  obtain ⟨mt, mf, h1, h2, h3⟩ := ht
  have hc : Chg (fun k => k = gt) w (w.setCell ⟨gt, 2, none⟩ (.bool true)) := chg_set ⟨gt, 2, none⟩ _
  have hne : ∀ k t cs, Blk w k t cs → t ≠ 76 → ¬ k = gt := fun k t cs hb ht => hb.ne_ h1.blk ht
  have hL1 : LO (w.setCell ⟨gt, 2, none⟩ (.bool true)) gl g x S F := h.chgT hc (fun k hk e => hd k hk ((h2 k).2 (.inl e))) (fun k cs hb => hne k _ cs hb (by decide)) (fun k cs hb => hne k _ cs hb (by decide))
  have hT1 : TX (w.setCell ⟨gt, 2, none⟩ (.bool true)) gt gl N ⟨t.m, true⟩ ST FT := ⟨mt, mf, ⟨h1.blk.set_ 2 _, h1.mp.chg hc (fun e => (h1.mp.im.blk_ne h1.blk) e.symm) (fun k cs hb => hne k _ cs hb (by decide))⟩, h2, fun k hk => Nat.lt_of_lt_of_le (h3 k hk) hc.size⟩
  obtain ⟨hL2, hc2⟩ := hL1.open_ false
  have hgS : S gl := by
    obtain ⟨mb, mf, Sd, hL, hs⟩ := h
    exact (hs gl).2 (.inr (.inl rfl))
  refine ⟨hL2, hT1.chgT hc2 (fun k hk e => hd k (e ▸ hgS) hk) (fun k cs hb e => hL1.not8 k cs hb (e ▸ hgS)), ?_⟩
  exact (hc.mono (fun k _ hk => .inr ((h2 k).2 (.inl hk)))).then_ hc2 (fun i _ hi => .inl (hi ▸ hgS))
def TxFacts (w : World) (gl gt g : Nat) (x : Lk) (t : Tk) : Prop := w.cell? ⟨gt, 0, none⟩ = some (.pointer (some ⟨gl, 0, none⟩)) ∧ w.cell? ⟨gt, 2, none⟩ = some (.bool t.ov) ∧ w.frozen? ⟨gt, 2, none⟩ = false ∧ w.cell? ⟨gl, 0, none⟩ = some (.pointer (some ⟨g, 0, none⟩)) ∧ w.cell? ⟨gl, 3, none⟩ = some (.bool x.op) ∧ w.frozen? ⟨gl, 3, none⟩ = false ∧ gt ≠ gl
theorem txFacts {w : World} {S ST FT : Nat → Prop} {gl g gt N : Nat} {x : Lk} {t : Tk} (h : LO w gl g x S F) (ht : TX w gt gl N t ST FT) : TxFacts w gl gt g x t := by
  obtain ⟨mb, mf, Sd, hL, hs⟩ := h
  obtain ⟨mt, mf, h1, h2, h3⟩ := ht
  exact ⟨h1.blk.cell 0, h1.blk.cell 2, h1.blk.frozen 2, hL.blk.cell 0, hL.blk.cell 3, hL.blk.frozen 3, h1.blk.ne_ hL.blk (by decide)⟩
set_option maxRecDepth 10000 in
set_option maxHeartbeats 4000000 in
theorem end_calls (w : World) {S ST FT : Nat → Prop} {gl g gt N : Nat} {x : Lk} {t : Tk} (h : LO w gl g x S F) (ht : TX w gt gl N t ST FT) (hd : ∀ k, S k → ¬ ST k) :
    Calls Try.prog 45 #[.pointer (some ⟨gt, 0, none⟩)] w fun e w' => e = .returned (.tuple #[]) ∧ EndOut w S F ST FT gl g gt N x t w' := by
  obtain ⟨a0, a2, z2, b0, b3, y3, hne⟩ := txFacts h ht
  have hO := Lib.hid (fun ho => EndOut.over h ht ho)
  have hN := Lib.hid (fun ho => EndOut.now h ht hd ho)
  clear h ht hd
  cases hov : t.ov with
  | true =>
    rw [hov] at a2
    have hfin := Lib.hid (hO.out hov)
    clear hO hN hov
    go_enter Try.func45, Try.ntmps45
    go_wp2
    go_end0
    exact ⟨rfl, hfin.out⟩
  | false =>
    rw [hov] at a2
    have hfin := Lib.hid (hN.out hov)
    clear hO hN hov
    go_enter Try.func45, Try.ntmps45
    go_wp2
    go_end0
    exact ⟨rfl, hfin.out⟩
set_option maxRecDepth 10000 in
set_option maxHeartbeats 4000000 in
theorem end_callsD (u : FrameMode) (w : World) {S ST FT : Nat → Prop} {gl g gt N : Nat} {x : Lk} {t : Tk} (h : LO w gl g x S F) (ht : TX w gt gl N t ST FT) (hd : ∀ k, S k → ¬ ST k) :
    CallsD Try.prog 45 #[.pointer (some ⟨gt, 0, none⟩)] u w fun e u' w' => u' = u ∧ (e = .returned (.tuple #[]) ∧ EndOut w S F ST FT gl g gt N x t w') := by
  obtain ⟨a0, a2, z2, b0, b3, y3, hne⟩ := txFacts h ht
  have hO := Lib.hid (fun ho => EndOut.over h ht ho)
  have hN := Lib.hid (fun ho => EndOut.now h ht hd ho)
  clear h ht hd
  cases hov : t.ov with
  | true =>
    rw [hov] at a2
    have hfin := Lib.hid (hO.out hov)
    clear hO hN hov
    go_enter_d Try.func45, Try.ntmps45
    go_wp2
    go_end0
    exact ⟨rfl, hfin.out⟩
  | false =>
    rw [hov] at a2
    have hfin := Lib.hid (hN.out hov)
    clear hO hN hov
    go_enter_d Try.func45, Try.ntmps45
    go_wp2
    go_end0
    exact ⟨rfl, hfin.out⟩
end Go.Proofs.Ytefbmbfhhhjgkaa
namespace Go.Proofs.Ytefbmbfhhhjgkaa
open Go.RowKit
variable {F : Nat → Prop}
theorem MBv.run_len {w : World} {b N : Nat} {mf : Nat → Option Value} {f : Nat → Option (List UInt8)} (h : MBv F w b N mf f) (ty : TypeId) : (Builtin.len_ #[72] ty #[.map (some b)]).run Try.prog w = .ok (.int .i64 ((ksW N f).length : Int)) w := by
  have := h.im.run_len (mt := 72) Try.underlying72 ty
  rw [this]
  have e : (fun k => (mf k).isSome) = fun k => (f k).isSome := funext h.some_iff
  rw [e]
  rfl
def treadP (x : Lk) (t : Tk) (n : Int) : Int × List UInt8 := match (if t.ov = true then none else fI t.m n) with
  | some bs => (0, bs)
  | none => (lreadE x n, lvalP x n.toNat)
set_option maxRecDepth 10000 in
set_option maxHeartbeats 4000000 in
theorem TRead_calls (w : World) {gl g gt N M NT : Nat} {x : Lk} {t : Tk} {S ST FT : Nat → Prop} (h : LO w gl g x S F) (ht : TX w gt gl NT t ST FT) (hf : Fit N M x.d) (hM : M ≤ 900000000) (hN : N ≤ 16384) (n : Int) (n1 : -9223372036854775808 ≤ n) (n2 : n ≤ 9223372036854775807) :
    Calls Try.prog 69 #[.pointer (some ⟨gt, 0, none⟩), .int .i64 n] w (RdOut w (treadP x t n).1 (treadP x t n).2) := by
  have hLR := Lib.hid (LRead_calls w h hf hM hN n)
  obtain ⟨mt, mf, h1, h2, h3⟩ := ht
  have c0 : w.cell? ⟨gt, 0, none⟩ = some (.pointer (some ⟨gl, 0, none⟩)) := h1.blk.cell 0
  have c1 : w.cell? ⟨gt, 1, none⟩ = some (.map (some mt)) := h1.blk.cell 1
  have c2 : w.cell? ⟨gt, 2, none⟩ = some (.bool t.ov) := h1.blk.cell 2
  have him := h1.mp.im
  have hzl := zero_slB
  obtain ⟨o, ho⟩ : ∃ o, Hid (treadP x t n = o) := ⟨_, Lib.hid rfl⟩
  rw [ho.out]
  obtain ⟨ov, hov⟩ : ∃ b, Hid (t.ov = b) := ⟨_, Lib.hid rfl⟩
  rw [hov.out] at c2
  rcases h1.mp.look n with ⟨hn, hv1, hv2⟩ | ⟨bs, A, c, hn, hv1, hv2, h5, hr⟩
  · have ho2 : Hid (o = (lreadE x n, lvalP x n.toNat)) := by
      show _ = _
      rw [← ho.out]
      unfold treadP
      rw [hn]
      split
      · rename_i h; split at h <;> cases h
      · rfl
    have hlk : Hid ((fI mf n).getD (.slice none 0 0) = .slice none 0 0 ∧ (fI mf n).isSome = false) := ⟨hv1, hv2⟩
    rw [show RdOut w o.1 o.2 = RdOut w (lreadE x n) (lvalP x n.toNat) by rw [ho2.out]]
    clear h1 h2 h3 hn hv1 hv2 ho ho2 h hf
    go_enter Try.func69, Try.ntmps69
    go_wp2_with (at_lookup; refine wpList_im_lookup_okI rfl rfl Try.underlying3 Try.underlying72 (hzl w) him rfl rfl n1 n2 hlk ?_)
    refine hLR.out.mono ?_
    rintro e w1 (⟨he, r, rfl, r1, r2, r3⟩ | ⟨he, rfl, rfl⟩)
    · have hfin : Hid (RdOut w (lreadE x n) (lvalP x n.toNat) (.returned (.tuple #[r, .int .i64 0])) w1) := .inl ⟨he, r, rfl, r1, r2, r3⟩
      clear hLR he r1 r2 r3 him
      go_wp2
      go_ret2
      exact hfin.out
    · have hfin : Hid (RdOut w (lreadE x n) (lvalP x n.toNat) (.returned (.tuple #[.slice none 0 0, .int .i64 (lreadE x n)])) w) := .inr ⟨he, rfl, rfl⟩
      generalize lreadE x n = er at *
      clear hLR he him
      go_wp2
      go_ret2
      exact hfin.out
  · have hlk : Hid ((fI mf n).getD (.slice none 0 0) = .slice A 512 c ∧ (fI mf n).isSome = true) := ⟨hv1, hv2⟩
    cases ov with
    | true =>
      have ho2 : Hid (o = (lreadE x n, lvalP x n.toNat)) := by
        show _ = _
        rw [← ho.out]
        unfold treadP
        rw [if_pos hov.out]
      rw [show RdOut w o.1 o.2 = RdOut w (lreadE x n) (lvalP x n.toNat) by rw [ho2.out]]
      clear h1 h2 h3 hn hv1 hv2 ho ho2 h hf hr h5
      go_enter Try.func69, Try.ntmps69
      go_wp2_with (at_lookup; refine wpList_im_lookup_okI rfl rfl Try.underlying3 Try.underlying72 (hzl w) him rfl rfl n1 n2 hlk ?_)
      refine hLR.out.mono ?_
      rintro e w1 (⟨he, r, rfl, r1, r2, r3⟩ | ⟨he, rfl, rfl⟩)
      · have hfin : Hid (RdOut w (lreadE x n) (lvalP x n.toNat) (.returned (.tuple #[r, .int .i64 0])) w1) := .inl ⟨he, r, rfl, r1, r2, r3⟩
        clear hLR he r1 r2 r3 him
        go_wp2
        go_ret2
        exact hfin.out
      · have hfin : Hid (RdOut w (lreadE x n) (lvalP x n.toNat) (.returned (.tuple #[.slice none 0 0, .int .i64 (lreadE x n)])) w) := .inr ⟨he, rfl, rfl⟩
        generalize lreadE x n = er at *
        clear hLR he him
        go_wp2
        go_ret2
        exact hfin.out
    | false =>
      have ho2 : Hid (o = (0, bs)) := by
        show _ = _
        rw [← ho.out]
        unfold treadP
        rw [if_neg (by rw [hov.out]; decide), hn]
      have hCl := Lib.hid (Clone8_calls w (.slice A 512 c) bs hr.1 (by rw [h5]; omega))
      rw [show RdOut w o.1 o.2 = RdOut w 0 bs by rw [ho2.out]]
      clear h1 h2 h3 hn hv1 hv2 ho ho2 h hf hr h5 hLR
      go_enter Try.func69, Try.ntmps69
      go_wp2_with (at_lookup; refine wpList_im_lookup_okI rfl rfl Try.underlying3 Try.underlying72 (hzl w) him rfl rfl n1 n2 hlk ?_)
      refine hCl.out.mono ?_
      rintro e w1 ⟨r, rfl, r1, r2, r3⟩
      have hfin : Hid (RdOut w 0 bs (.returned (.tuple #[r, .int .i64 0])) w1) := .inl ⟨rfl, r, rfl, r1, r2, r3⟩
      clear hCl r1 r2 r3 him
      go_wp2
      go_ret2
      exact hfin.out
def TWrote (w : World) (ST FT : Nat → Prop) (gt gl N : Nat) (t : Tk) (w' : World) : Prop := ∃ FT', TX w' gt gl N t ST FT' ∧ Chg ST w w' ∧ ∀ k, FT' k → FT k ∨ w.heap.size ≤ k
theorem TWrote.refl {w : World} {ST FT : Nat → Prop} {gt gl N : Nat} {t : Tk} (h : TX w gt gl N t ST FT) : TWrote w ST FT gt gl N t w := ⟨FT, h, Chg.refl _ _, fun _ h => .inl h⟩
def twriteE (N : Nat) (t : Tk) (n : Int) (bs : List UInt8) : Int :=
  if n < 0 ∨ (N : Int) ≤ n ∨ bs.length ≠ 512 then 1 else if t.ov = true then 15 else if fI t.m n = none ∧ (ksW N t.m).length = 63 then 7 else 0
def tput (t : Tk) (n : Nat) (bs : List UInt8) : Tk := ⟨fun j => if j = n then some bs else t.m j, t.ov⟩
def twriteP (N : Nat) (t : Tk) (n : Int) (bs : List UInt8) : Int × Tk := (twriteE N t n bs, if twriteE N t n bs = 0 then tput t n.toNat bs else t)
set_option maxRecDepth 10000 in
set_option maxHeartbeats 8000000 in
theorem TWrite_calls (w : World) {gl g gt N : Nat} {x : Lk} {t : Tk} {S ST FT : Nat → Prop} (h : LO w gl g x S F) (ht : TX w gt gl N t ST FT) (hxl : x.d.l.length = N + 65) (hN : N ≤ 16000) (n : Int) (n1 : -9223372036854775808 ≤ n) (n2 : n ≤ 9223372036854775807) (v : Value) (bs : List UInt8) (hv : Rd w v (bvs bs)) (hl : bs.length ≤ 1000000000) :
    Calls Try.prog 35 #[.pointer (some ⟨gt, 0, none⟩), .int .i64 n, v] w fun e w' => e = .returned (.int .i64 (twriteP N t n bs).1) ∧ TWrote w ST FT gt gl N (twriteP N t n bs).2 w' := by
  have hBl := LBlocks_calls w h (by omega)
  rw [hxl, show ((N + 65 : Nat) : Int) - 65 = N by omega] at hBl
  have hBl := Lib.hid hBl
  have hth := Lib.hid ht
  obtain ⟨vA, vc, rfl⟩ := hv.shape8
  obtain ⟨mt, mf, h1, h2, h3⟩ := ht
  have c0 : w.cell? ⟨gt, 0, none⟩ = some (.pointer (some ⟨gl, 0, none⟩)) := h1.blk.cell 0
  have c1 : w.cell? ⟨gt, 1, none⟩ = some (.map (some mt)) := h1.blk.cell 1
  have c2 : w.cell? ⟨gt, 2, none⟩ = some (.bool t.ov) := h1.blk.cell 2
  have him := h1.mp.im
  have hzl := zero_slB
  have hln := fun ty => h1.mp.run_len ty
  obtain ⟨o, ho⟩ : ∃ o, Hid (twriteP N t n bs = o) := ⟨_, Lib.hid rfl⟩
  rw [ho.out]
  have hE : Hid (o = ((if n < 0 ∨ (N : Int) ≤ n ∨ bs.length ≠ 512 then 1 else if t.ov = true then 15 else if fI t.m n = none ∧ (ksW N t.m).length = 63 then 7 else 0 : Int), if (if n < 0 ∨ (N : Int) ≤ n ∨ bs.length ≠ 512 then 1 else if t.ov = true then 15 else if fI t.m n = none ∧ (ksW N t.m).length = 63 then 7 else 0 : Int) = 0 then tput t n.toNat bs else t)) := ho.out.symm
  obtain ⟨bl, hbl⟩ : ∃ q, Hid (bs.length = q) := ⟨_, Lib.hid rfl⟩
  have hvh := Lib.hid hv
  have hlh := Lib.hid hl
  have h1h := Lib.hid h1
  rw [hbl.out] at hvh hlh hE ⊢
  clear h ho hv hl h1
  by_cases k1 : n < 0
  · have ho2 : Hid (o = (1, t)) := by show _ = _; rw [hE.out, if_pos (.inl k1)]; rfl
    have hfin : Hid (o.1 = 1 ∧ TWrote w ST FT gt gl N o.2 w) := by rw [ho2.out]; exact ⟨rfl, TWrote.refl hth.out⟩
    clear hE ho2 hBl him hln
    go_enter Try.func35, Try.ntmps35
    go_wp2
    go_ret
    exact ⟨by rw [hfin.out.1]; rfl, hfin.out.2⟩
  · by_cases k2 : (N : Int) ≤ n
    · have ho2 : Hid (o = (1, t)) := by show _ = _; rw [hE.out, if_pos (.inr (.inl k2))]; rfl
      have hfin : Hid (o.1 = 1 ∧ TWrote w ST FT gt gl N o.2 w) := by rw [ho2.out]; exact ⟨rfl, TWrote.refl hth.out⟩
      clear hE ho2 him hln
      go_enter Try.func35, Try.ntmps35
      go_wp2_with fail
      refine hBl.out.mono ?_
      rintro e w1 ⟨rfl, rfl⟩
      clear hBl
      go_wp2
      go_ret
      exact ⟨by rw [hfin.out.1]; rfl, hfin.out.2⟩
    · by_cases k3 : bl = 512
      · have hE2 : Hid (o = ((if t.ov = true then 15 else if fI t.m n = none ∧ (ksW N t.m).length = 63 then 7 else 0 : Int), if (if t.ov = true then 15 else if fI t.m n = none ∧ (ksW N t.m).length = 63 then 7 else 0 : Int) = 0 then tput t n.toNat bs else t)) := by
          show _ = _
          rw [hE.out, if_neg (by omega)]
        clear hE
        subst k3
        obtain ⟨k, rfl⟩ := Int.eq_ofNat_of_zero_le (show 0 ≤ n by omega)
        have hkN : k < N := by omega
        cases hov : t.ov with
        | true =>
          rw [hov] at c2
          have ho2 : Hid (o = (15, t)) := by show _ = _; rw [hE2.out, if_pos hov]; rfl
          have hfin : Hid (o.1 = 15 ∧ TWrote w ST FT gt gl N o.2 w) := by rw [ho2.out]; exact ⟨rfl, TWrote.refl hth.out⟩
          clear hE2 ho2 him hln hov
          go_enter Try.func35, Try.ntmps35
          go_wp2_with fail
          refine hBl.out.mono ?_
          rintro e w1 ⟨rfl, rfl⟩
          clear hBl
          go_wp2
          go_ret
          exact ⟨by rw [hfin.out.1]; rfl, hfin.out.2⟩
        | false =>
          rw [hov] at c2
          have hE3 : Hid (o = ((if fI t.m k = none ∧ (ksW N t.m).length = 63 then 7 else 0 : Int), if (if fI t.m k = none ∧ (ksW N t.m).length = 63 then 7 else 0 : Int) = 0 then tput t k bs else t)) := by
            show _ = _
            rw [hE2.out, if_neg (by rw [hov]; decide), Int.toNat_natCast]
          clear hE2 hov
          obtain ⟨q, hq⟩ : ∃ q, Hid ((ksW N t.m).length = q) := ⟨_, Lib.hid rfl⟩
          rw [hq.out] at hln hE3
          have hfI : fI t.m (k : Int) = t.m k := by unfold fI; rw [if_pos (by omega), Int.toNat_natCast]
          rw [hfI] at hE3
          have hCl := Lib.hid (Clone8_calls w.drew (.slice vA 512 vc) bs hvh.out.drew (by rw [hbl.out]; omega))
          have hdone : Hid (∀ r wa w', o = (0, tput t k bs) → Own8 wa r bs → Below w.heap.size w wa → (∀ j, r.ownBlock = some j → w.heap.size ≤ j) → IM Try.prog 3 w' mt N (fun j => if j = k then some r else mf j) → wa.mapTurned w' mt → o.1 = 0 ∧ TWrote w ST FT gt gl N o.2 w') := fun r wa w' ho hr hB hn hi hm => by
            rw [ho]
            have hmpa := (h1h.out.mp.below hB).wider (F' := fun j => FT j ∨ (w.heap.size ≤ j ∧ j < wa.heap.size)) fun j hj _ => .inl hj
            have hput := hmpa.put hbl.out (RdT.of_own (F := fun j => FT j ∨ (w.heap.size ≤ j ∧ j < wa.heap.size)) hr (fun j hj => .inr ⟨hn j hj, hr.lt j hj⟩)) hi hm
            have hc : Chg (fun j => j = mt) wa w' := Chg.turned hm rfl
            refine ⟨rfl, fun j => FT j ∨ (w.heap.size ≤ j ∧ j < wa.heap.size), ⟨mt, _, ⟨?_, hput⟩, h2, fun j hj => ?_⟩, ?_, fun j hj => ?_⟩
            · exact (h1h.out.blk.chg (Chg.of_below hB) (S := fun _ => False) id).chg hc ((h1h.out.mp.below hB).im.blk_ne (h1h.out.blk.chg (Chg.of_below hB) (S := fun _ => False) id))
            · rcases hj with hj | hj
              · exact Nat.lt_of_lt_of_le (h3 j hj) (Nat.le_trans hB.size hc.size)
              · exact Nat.lt_of_lt_of_le hj.2 hc.size
            · exact ((Chg.of_below hB : Chg (fun _ => False) w wa).mono (fun _ _ h => h.elim)).then_ hc (fun i _ hi => (h2 i).2 (.inr hi))
            · rcases hj with hj | hj
              · exact .inl hj
              · exact .inr hj.1
          have hbk := Lib.hid h1h.out.blk
          have himh := Lib.hid him
          by_cases hnone : t.m k = none
          · have hlk : Hid ((fI mf (k : Int)).getD (.slice none 0 0) = .slice none 0 0 ∧ (fI mf (k : Int)).isSome = false) := by
              rcases h1h.out.mp.look (k : Int) with ⟨_, b1, b2⟩ | ⟨_, _, _, b1, _⟩
              · exact ⟨b1, b2⟩
              · rw [hfI, hnone] at b1; cases b1
            by_cases hq63 : q = 63
            · have ho2 : Hid (o = (7, t)) := by show _ = _; rw [hE3.out, if_pos ⟨hnone, hq63⟩]; rfl
              have hfin : Hid (o.1 = 7 ∧ TWrote w ST FT gt gl N o.2 w) := by rw [ho2.out]; exact ⟨rfl, TWrote.refl hth.out⟩
              subst hq63
              clear hE3 ho2 hCl hdone hnone hfI
              go_enter Try.func35, Try.ntmps35
              go_wp2_with fail
              refine hBl.out.mono ?_
              rintro e w1 ⟨rfl, rfl⟩
              clear hBl
              go_wp2_with (at_lookup; refine wpList_im_lookup_okI rfl rfl Try.underlying3 Try.underlying72 (hzl w) him rfl rfl n1 n2 hlk ?_)
              go_ret
              exact ⟨by rw [hfin.out.1]; rfl, hfin.out.2⟩
            · have ho2 : Hid (o = (0, tput t k bs)) := by show _ = _; rw [hE3.out, if_neg (fun e => hq63 e.2)]; rfl
              have hq63 : ((q : Int) == 63) = false := by simp; omega
              clear hE3 hnone hfI
              go_enter Try.func35, Try.ntmps35
              go_wp2_with fail
              refine hBl.out.mono ?_
              rintro e w1 ⟨rfl, rfl⟩
              clear hBl
              go_wp2_with (at_lookup; refine wpList_im_lookup_okI rfl rfl Try.underlying3 Try.underlying72 (hzl w) him rfl rfl n1 n2 hlk ?_)
              refine wp_mixs (fun W => Blk W gt 76 #[.pointer (some ⟨gl, 0, none⟩), .map (some mt), .bool t.ov]) [6, 7] (by kernel_rfl) (by kernel_rfl) (by kernel_rfl) (by decide) (show Blk w.drew gt 76 #[.pointer (some ⟨gl, 0, none⟩), .map (some mt), .bool t.ov] from hbk.out) ?_
              iterate 6 ((first | refine mixsq rfl rfl 0 (by decide +kernel) ?_ (fun w' hw' => Or.inl ?_) (fun K hK => ?_) | refine mixsq rfl rfl 1 (by decide +kernel) ?_ (fun w' hw' => Or.inl ?_) (fun K hK => ?_) | refine mixsq rfl rfl 2 (by decide +kernel) ?_ (fun w' hw' => Or.inl ?_) (fun K hK => ?_) | refine mixsq rfl rfl 3 (by decide +kernel) ?_ (fun w' hw' => Or.inl ?_) (fun K hK => ?_) | refine mixsq rfl rfl 4 (by decide +kernel) ?_ (fun w' hw' => Or.inl ?_) (fun K hK => ?_) | refine mixsq rfl rfl 5 (by decide +kernel) ?_ (fun w' hw' => Or.inl ?_) (fun K hK => ?_) | refine mixsq rfl rfl 6 (by decide +kernel) ?_ (fun w' hw' => Or.inl ?_) (fun K hK => ?_) | refine mixsq rfl rfl 7 (by decide +kernel) ?_ (fun w' hw' => Or.inl ?_) (fun K hK => ?_)); rotate_left; (focus (have hc : Blk w' gt 76 #[.pointer (some ⟨gl, 0, none⟩), .map (some mt), .bool t.ov] := hw'; have c1 := hc.cell 1; have c0 := hc.cell 0; go_simp; rfl)); go_simp; refine hK _ ?_; clear hK K)
              refine mixsl rfl rfl (fun K hK => ?_)
              go_simp
              refine hCl.out.mono ?_
              rintro e wa ⟨r, rfl, hor, hBa, hrn⟩
              have hBa : Below w.heap.size w wa := ⟨hBa.os, hBa.tape, hBa.output, hBa.size, hBa.block⟩
              have hrn : ∀ j, r.ownBlock = some j → w.heap.size ≤ j := hrn
              have ba : Blk wa gt 76 #[.pointer (some ⟨gl, 0, none⟩), .map (some mt), .bool t.ov] := hbk.out.chg (Chg.of_below hBa) (S := fun _ => False) id
              refine hK (fun W => Blk W gt 76 #[.pointer (some ⟨gl, 0, none⟩), .map (some mt), .bool t.ov]) _ _ (fun _ => ⟨ba, fun _ => ba⟩) ?_
              clear hK K
              refine mixsl rfl rfl (fun K hK => ?_)
              have hima := (h1h.out.mp.below hBa).im
              refine wp_im_update rfl Try.underlying3 Try.underlying72 hima rfl (k := k) rfl (by omega) hkN rfl ?_
              intro w9 hi9 ht9
              have hfin := Lib.hid (hdone.out r wa w9 ho2.out hor hBa hrn hi9 ht9)
              have b9 : Blk w9 gt 76 #[.pointer (some ⟨gl, 0, none⟩), .map (some mt), .bool t.ov] := ba.chg (Chg.turned ht9 rfl : Chg (fun j => j = mt) wa w9) (hima.blk_ne ba)
              refine hK (fun W => Blk W gt 76 #[.pointer (some ⟨gl, 0, none⟩), .map (some mt), .bool t.ov]) _ _ (fun _ => ⟨b9, ext_all (fun _ => b9) b9⟩) ?_
              clear hK K hima hor hBa hrn hi9 ht9 ba b9 hCl hdone ho2
              refine mixs_nil ?_
              go_wp2
              go_ret
              exact ⟨by rw [hfin.out.1]; rfl, hfin.out.2⟩
          · have hsome : ∃ b0, t.m k = some b0 := by
              cases hb : t.m k with
              | none => exact absurd hb hnone
              | some b0 => exact ⟨b0, rfl⟩
            obtain ⟨b0, hb0⟩ := hsome
            obtain ⟨uA, uc, hlk⟩ : ∃ uA uc, Hid ((fI mf (k : Int)).getD (.slice none 0 0) = .slice uA 512 uc ∧ (fI mf (k : Int)).isSome = true) := by
              rcases h1h.out.mp.look (k : Int) with ⟨b1, _⟩ | ⟨_, A, c, _, b1, b2, _⟩
              · rw [hfI, hb0] at b1; cases b1
              · exact ⟨A, c, b1, b2⟩
            have ho2 : Hid (o = (0, tput t k bs)) := by show _ = _; rw [hE3.out, if_neg (fun e => hnone e.1)]; rfl
            clear hE3 hnone hfI hb0
            go_enter Try.func35, Try.ntmps35
            go_wp2_with fail
            refine hBl.out.mono ?_
            rintro e w1 ⟨rfl, rfl⟩
            clear hBl
            go_wp2_with (at_lookup; refine wpList_im_lookup_okI rfl rfl Try.underlying3 Try.underlying72 (hzl w) him rfl rfl n1 n2 hlk ?_)
            refine wp_mixs (fun W => Blk W gt 76 #[.pointer (some ⟨gl, 0, none⟩), .map (some mt), .bool t.ov]) [6, 7] (by kernel_rfl) (by kernel_rfl) (by kernel_rfl) (by decide) (show Blk w.drew gt 76 #[.pointer (some ⟨gl, 0, none⟩), .map (some mt), .bool t.ov] from hbk.out) ?_
            iterate 6 ((first | refine mixsq rfl rfl 0 (by decide +kernel) ?_ (fun w' hw' => Or.inl ?_) (fun K hK => ?_) | refine mixsq rfl rfl 1 (by decide +kernel) ?_ (fun w' hw' => Or.inl ?_) (fun K hK => ?_) | refine mixsq rfl rfl 2 (by decide +kernel) ?_ (fun w' hw' => Or.inl ?_) (fun K hK => ?_) | refine mixsq rfl rfl 3 (by decide +kernel) ?_ (fun w' hw' => Or.inl ?_) (fun K hK => ?_) | refine mixsq rfl rfl 4 (by decide +kernel) ?_ (fun w' hw' => Or.inl ?_) (fun K hK => ?_) | refine mixsq rfl rfl 5 (by decide +kernel) ?_ (fun w' hw' => Or.inl ?_) (fun K hK => ?_) | refine mixsq rfl rfl 6 (by decide +kernel) ?_ (fun w' hw' => Or.inl ?_) (fun K hK => ?_) | refine mixsq rfl rfl 7 (by decide +kernel) ?_ (fun w' hw' => Or.inl ?_) (fun K hK => ?_)); rotate_left; (focus (have hc : Blk w' gt 76 #[.pointer (some ⟨gl, 0, none⟩), .map (some mt), .bool t.ov] := hw'; have c1 := hc.cell 1; have c0 := hc.cell 0; go_simp; rfl)); go_simp; refine hK _ ?_; clear hK K)
            refine mixsl rfl rfl (fun K hK => ?_)
            go_simp
            refine hCl.out.mono ?_
            rintro e wa ⟨r, rfl, hor, hBa, hrn⟩
            have hBa : Below w.heap.size w wa := ⟨hBa.os, hBa.tape, hBa.output, hBa.size, hBa.block⟩
            have hrn : ∀ j, r.ownBlock = some j → w.heap.size ≤ j := hrn
            have ba : Blk wa gt 76 #[.pointer (some ⟨gl, 0, none⟩), .map (some mt), .bool t.ov] := hbk.out.chg (Chg.of_below hBa) (S := fun _ => False) id
            refine hK (fun W => Blk W gt 76 #[.pointer (some ⟨gl, 0, none⟩), .map (some mt), .bool t.ov]) _ _ (fun _ => ⟨ba, fun _ => ba⟩) ?_
            clear hK K
            refine mixsl rfl rfl (fun K hK => ?_)
            have hima := (h1h.out.mp.below hBa).im
            refine wp_im_update rfl Try.underlying3 Try.underlying72 hima rfl (k := k) rfl (by omega) hkN rfl ?_
            intro w9 hi9 ht9
            have hfin := Lib.hid (hdone.out r wa w9 ho2.out hor hBa hrn hi9 ht9)
            have b9 : Blk w9 gt 76 #[.pointer (some ⟨gl, 0, none⟩), .map (some mt), .bool t.ov] := ba.chg (Chg.turned ht9 rfl : Chg (fun j => j = mt) wa w9) (hima.blk_ne ba)
            refine hK (fun W => Blk W gt 76 #[.pointer (some ⟨gl, 0, none⟩), .map (some mt), .bool t.ov]) _ _ (fun _ => ⟨b9, ext_all (fun _ => b9) b9⟩) ?_
            clear hK K hima hor hBa hrn hi9 ht9 ba b9 hCl hdone ho2
            refine mixs_nil ?_
            go_wp2
            go_ret
            exact ⟨by rw [hfin.out.1]; rfl, hfin.out.2⟩
      · have ho2 : Hid (o = (1, t)) := by show _ = _; rw [hE.out, if_pos (.inr (.inr k3))]; rfl
        have hfin : Hid (o.1 = 1 ∧ TWrote w ST FT gt gl N o.2 w) := by rw [ho2.out]; exact ⟨rfl, TWrote.refl hth.out⟩
        have k3 : ((bl : Int) != 512) = true := by simp; omega
        clear hE ho2 him hln
        go_enter Try.func35, Try.ntmps35
        go_wp2_with fail
        refine hBl.out.mono ?_
        rintro e w1 ⟨rfl, rfl⟩
        clear hBl
        go_wp2
        go_ret
        exact ⟨by rw [hfin.out.1]; rfl, hfin.out.2⟩
end Go.Proofs.Ytefbmbfhhhjgkaa
