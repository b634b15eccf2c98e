/- The log in a caller's hands (with power, unarmed): LC, LT (with a transaction that is open). -/
import Derived.Test.YtefbmbfhhhjgkaaWpb
namespace Go.Proofs.Ytefbmbfhhhjgkaa
open Go.RowKit
theorem Vw.fit {N M : Nat} {d : Dk} {V : Nat → List UInt8} (h : Vw N M d V) : Fit N M d := ⟨h.dl, h.wl, h.wt, by rw [h.pk]; simp, by rw [h.ar]; omega⟩
/-- The blocks of X are as they were. -/
def KeepX (X : Nat → Prop) (w w' : World) : Prop := ∀ k, X k → w'.heap[k]? = w.heap[k]?
theorem KeepX.refl (X : Nat → Prop) (w : World) : KeepX X w w := fun _ _ => rfl
theorem KeepX.trans {X : Nat → Prop} {a b c : World} (h : KeepX X a b) (k : KeepX X b c) : KeepX X a c := fun i hi => (k i hi).trans (h i hi)
theorem KeepX.of_below {X : Nat → Prop} {w w' : World} (h : Below w.heap.size w w') (hx : ∀ k, X k → k < w.heap.size) : KeepX X w w' := fun k hk => h.block k (hx k hk)
theorem KeepX.of_chg {X S : Nat → Prop} {w w' : World} (h : Chg S w w') (hx : ∀ k, X k → k < w.heap.size ∧ ¬ S k) : KeepX X w w' := fun k hk => h.block k (hx k hk).1 (hx k hk).2
theorem KeepX.blk {X : Nat → Prop} {w w' : World} (h : KeepX X w w') {k t : Nat} {cs : Array Value} (hb : Blk w k t cs) (hk : X k) : Blk w' k t cs := (h k hk).trans hb
/-- A log (over a disk with power) that a caller made behind world W0; the caller's own blocks X are apart. -/
structure LC (W0 w : World) (gl g N : Nat) (x : Lk) (V : Nat → List UInt8) (X : Nat → Prop) : Prop where
  ex : ∃ S F, LO w gl g x S F ∧ ∀ k, S k → W0.heap.size ≤ k ∧ ¬ X k
  la : LA N x V
  bel : Below W0.heap.size W0 w
  xl : ∀ k, X k → k < w.heap.size
/-- .. and a transaction of it. -/
structure LT (W0 w : World) (gl g gt N : Nat) (x : Lk) (V : Nat → List UInt8) (t : Tk) (X : Nat → Prop) : Prop where
  ex : ∃ S F ST FT, LO w gl g x S F ∧ TX w gt gl (N - 65) t ST FT ∧ (∀ k, S k → ¬ ST k) ∧ ∀ k, S k ∨ ST k → W0.heap.size ≤ k ∧ ¬ X k
  la : LA N x V
  tk : TOk (N - 65) t
  bel : Below W0.heap.size W0 w
  xl : ∀ k, X k → k < w.heap.size
theorem below_chg {W0 w w' : World} {S : Nat → Prop} (h : Below W0.heap.size W0 w) (hc : Chg S w w') (hS : ∀ k, S k → W0.heap.size ≤ k) : Below W0.heap.size W0 w' := h.trans (hc.below h.size hS)
section
variable {W0 w w' : World} {gl g gt N : Nat} {x : Lk} {V : Nat → List UInt8} {t : Tk} {X : Nat → Prop}
theorem LC.below (h : LC W0 w gl g N x V X) (hb : Below w.heap.size w w') : LC W0 w' gl g N x V X := by
  obtain ⟨S, F, h1, h2⟩ := h.ex
  exact ⟨⟨S, F, h1.below hb, h2⟩, h.la, h.bel.trans (hb.mono h.bel.size), fun k hk => Nat.lt_of_lt_of_le (h.xl k hk) hb.size⟩
theorem LT.below (h : LT W0 w gl g gt N x V t X) (hb : Below w.heap.size w w') : LT W0 w' gl g gt N x V t X := by
  obtain ⟨S, F, ST, FT, h1, h2, h3, h4⟩ := h.ex
  exact ⟨⟨S, F, ST, FT, h1.below hb, h2.below hb, h3, h4⟩, h.la, h.tk, h.bel.trans (hb.mono h.bel.size), fun k hk => Nat.lt_of_lt_of_le (h.xl k hk) hb.size⟩
/-- A block more of the caller's: one that is new. -/
theorem LC.more (h : LC W0 w gl g N x V X) (hb : Below w.heap.size w w') {Y : Nat → Prop} (hY : ∀ k, Y k → X k ∨ (w.heap.size ≤ k ∧ k < w'.heap.size)) : LC W0 w' gl g N x V Y := by
  obtain ⟨S, F, h1, h2⟩ := h.ex
  refine ⟨⟨S, F, h1.below hb, fun k hk => ⟨(h2 k hk).1, fun hy => ?_⟩⟩, h.la, h.bel.trans (hb.mono h.bel.size), fun k hk => ?_⟩
  · rcases hY k hy with h | h
    · exact (h2 k hk).2 h
    · have := h1.lt hk
      omega
  · rcases hY k hk with h3 | h3
    · exact Nat.lt_of_lt_of_le (h.xl k h3) hb.size
    · exact h3.2
theorem LT.more (h : LT W0 w gl g gt N x V t X) (hb : Below w.heap.size w w') {Y : Nat → Prop} (hY : ∀ k, Y k → X k ∨ (w.heap.size ≤ k ∧ k < w'.heap.size)) : LT W0 w' gl g gt N x V t Y := by
  obtain ⟨S, F, ST, FT, h1, h2, h3, h4⟩ := h.ex
  refine ⟨⟨S, F, ST, FT, h1.below hb, h2.below hb, h3, fun k hk => ⟨(h4 k hk).1, fun hy => ?_⟩⟩, h.la, h.tk, h.bel.trans (hb.mono h.bel.size), fun k hk => ?_⟩
  · rcases hY k hy with h | h
    · exact (h4 k hk).2 h
    · rcases hk with hk | hk
      · have := h1.lt hk
        omega
      · have := h2.lt hk
        omega
  · rcases hY k hk with h3 | h3
    · exact Nat.lt_of_lt_of_le (h.xl k h3) hb.size
    · exact h3.2
theorem LC.less (h : LC W0 w gl g N x V X) {Y : Nat → Prop} (hY : ∀ k, Y k → X k) : LC W0 w gl g N x V Y := h.more (Below.refl _ _) fun k hk => .inl (hY k hk)
/-- What the caller does to blocks of its own. -/
theorem LC.own (h : LC W0 w gl g N x V X) {Z : Nat → Prop} (hc : Chg Z w w') (hZ : ∀ k, Z k → X k ∧ W0.heap.size ≤ k) (h8 : ∀ k cs, Blk w k 5 cs → ¬ Z k) (hi : ∀ k cs, Blk w k 3 cs → ¬ Z k) : LC W0 w' gl g N x V X := by
  obtain ⟨S, F, h1, h2⟩ := h.ex
  exact ⟨⟨S, F, h1.chgT hc (fun k hk hz => (h2 k hk).2 (hZ k hz).1) h8 hi, h2⟩, h.la, below_chg h.bel hc (fun k hk => (hZ k hk).2), fun k hk => Nat.lt_of_lt_of_le (h.xl k hk) hc.size⟩
theorem LT.own (h : LT W0 w gl g gt N x V t X) {Z : Nat → Prop} (hc : Chg Z w w') (hZ : ∀ k, Z k → X k ∧ W0.heap.size ≤ k) (h8 : ∀ k cs, Blk w k 5 cs → ¬ Z k) (hi : ∀ k cs, Blk w k 3 cs → ¬ Z k) : LT W0 w' gl g gt N x V t X := by
  obtain ⟨S, F, ST, FT, h1, h2, h3, h4⟩ := h.ex
  exact ⟨⟨S, F, ST, FT, h1.chgT hc (fun k hk hz => (h4 k (.inl hk)).2 (hZ k hz).1) h8 hi, h2.chgT hc (fun k hk hz => (h4 k (.inr hk)).2 (hZ k hz).1) h8, h3, h4⟩, h.la, h.tk, below_chg h.bel hc (fun k hk => (hZ k hk).2), fun k hk => Nat.lt_of_lt_of_le (h.xl k hk) hc.size⟩
theorem LT.lc (h : LT W0 w gl g gt N x V t X) : LC W0 w gl g N x V X := by
  obtain ⟨S, F, ST, FT, h1, _, _, h4⟩ := h.ex
  exact ⟨⟨S, F, h1, fun k hk => h4 k (.inl hk)⟩, h.la, h.bel, h.xl⟩
def COut (W0 w : World) (gl g N : Nat) (x : Lk) (V : Nat → List UInt8) (X : Nat → Prop) (w' : World) : Prop := LC W0 w' gl g N x V X ∧ KeepX X w w'
theorem cRead (h : LC W0 w gl g N x V X) (hN : 65 < N ∧ N ≤ 16000) (n : Int) :
    Calls Try.prog 88 #[.pointer (some ⟨gl, 0, none⟩), .int .i64 n] w (RdOut w (if n < 0 ∨ ((N - 65 : Nat) : Int) ≤ n then 1 else 0) (lvalP x n.toNat)) := by
  obtain ⟨S, F, h1, h2⟩ := h.ex
  have := LRead_calls w h1 h.la.vw.fit (by omega) (by omega) n
  rwa [h.la.readE hN.1] at this
theorem cBlocks (h : LC W0 w gl g N x V X) (hN : 65 < N ∧ N ≤ 16000) : Calls Try.prog 14 #[.pointer (some ⟨gl, 0, none⟩)] w (Ans w (.int .i64 ((N - 65 : Nat) : Int))) := by
  obtain ⟨S, F, h1, h2⟩ := h.ex
  have := LBlocks_calls w h1 (by rw [h.la.vw.dl]; omega)
  rw [h.la.vw.dl, show (N : Int) - 65 = ((N - 65 : Nat) : Int) by omega] at this
  exact this
theorem cSync (h : LC W0 w gl g N x V X) (hN : 65 < N ∧ N ≤ 16000) :
    Calls Try.prog 29 #[.pointer (some ⟨gl, 0, none⟩)] w fun e w' => e = .returned (.int .i64 0) ∧ ∃ d' V', COut W0 w gl g N ⟨d', fun _ => none, 0, x.op⟩ V' X w' ∧ ∀ n, n < N - 65 → V' (65 + n) = datP x V n := by
  obtain ⟨S, F, h1, h2⟩ := h.ex
  obtain ⟨d', V', e, hl, hv⟩ := h.la.lsync hN.1
  refine (LSync_calls w h1 h.la.vw.fit (by omega) (by omega) h.la.k63).mono ?_
  rw [e]
  rintro e w' ⟨rfl, S', F', g1, g2, g3, g4⟩
  refine ⟨rfl, d', V', ⟨⟨⟨S', F', g1, fun k hk => ?_⟩, hl, below_chg h.bel g2 (fun k hk => (h2 k hk).1), fun k hk => Nat.lt_of_lt_of_le (h.xl k hk) g2.size⟩, KeepX.of_chg g2 (fun k hk => ⟨h.xl k hk, fun hs => (h2 k hs).2 hk⟩)⟩, hv⟩
  rcases g3 k hk with h3 | h3
  · exact h2 k h3
  · exact ⟨Nat.le_trans h.bel.size h3, fun hx => by have := h.xl k hx; omega⟩
theorem cBegin (h : LC W0 w gl g N x V X) (hop : x.op = false) :
    Calls Try.prog 20 #[.pointer (some ⟨gl, 0, none⟩)] w fun e w' => ∃ gt, e = .returned (.tuple #[.pointer (some ⟨gt, 0, none⟩), .int .i64 0]) ∧ LT W0 w' gl g gt N ⟨x.d, x.wt, x.pn, true⟩ V ⟨fun _ => none, false⟩ X ∧ KeepX X w w' := by
  obtain ⟨S, F, h1, h2⟩ := h.ex
  refine (Begin_calls w h1).mono ?_
  rintro e w' (⟨a, _⟩ | ⟨_, a, _⟩ | ⟨_, _, gt, rfl, g1, g2, ST, g3, g4⟩)
  · rw [h.la.vw.of] at a; cases a
  · rw [hop] at a; cases a
  · rw [h.la.vw.dl] at g3
    refine ⟨gt, rfl, ⟨⟨S, F, ST, _, g1, g3, fun k hk hT => ?_, fun k hk => ?_⟩, ⟨h.la.vw, h.la.st, h.la.h0, h.la.wl, h.la.k63⟩, TOk.fresh _ _, below_chg h.bel g2 (fun k hk => (h2 k hk).1), fun k hk => Nat.lt_of_lt_of_le (h.xl k hk) g2.size⟩, KeepX.of_chg g2 (fun k hk => ⟨h.xl k hk, fun hs => (h2 k hs).2 hk⟩)⟩
    · have := g4 k hT
      have := h1.lt hk
      omega
    · rcases hk with hk | hk
      · exact h2 k hk
      · have := g4 k hk
        exact ⟨Nat.le_trans h.bel.size this, fun hx => by have := h.xl k hx; omega⟩
theorem cWrite (h : LT W0 w gl g gt N x V t X) (hN : 65 < N ∧ N ≤ 16000) (n : Int) (n1 : -9223372036854775808 ≤ n) (n2 : n ≤ 9223372036854775807) (v : Value) (bs : List UInt8) (hv : Rd w v (bvs bs)) (hl : bs.length ≤ 1000000000) :
    Calls Try.prog 35 #[.pointer (some ⟨gt, 0, none⟩), .int .i64 n, v] w fun e w' => e = .returned (.int .i64 (twriteP (N - 65) t n bs).1) ∧ LT W0 w' gl g gt N x V (twriteP (N - 65) t n bs).2 X ∧ KeepX X w w' := by
  obtain ⟨S, F, ST, FT, h1, h2, h3, h4⟩ := h.ex
  refine (TWrite_calls w h1 h2 (by rw [h.la.vw.dl]; omega) (by omega) n n1 n2 v bs hv hl).mono ?_
  rintro e w' ⟨rfl, FT', g1, g2, g3⟩
  refine ⟨rfl, ⟨⟨S, F, ST, FT', h1.chgT g2 (fun k hk => h3 k hk) h2.not8 h2.noti, g1, h3, h4⟩, h.la, ?_, below_chg h.bel g2 (fun k hk => (h4 k (.inr hk)).1), fun k hk => Nat.lt_of_lt_of_le (h.xl k hk) g2.size⟩, KeepX.of_chg g2 (fun k hk => ⟨h.xl k hk, fun hs => (h4 k (.inr hs)).2 hk⟩)⟩
  unfold twriteP
  by_cases e0 : twriteE (N - 65) t n bs = 0
  · simp only [e0, if_true]
    unfold twriteE at e0
    split at e0
    · cases e0
    · rename_i c1
      split at e0
      · cases e0
      · split at e0
        · cases e0
        · rename_i c2
          have hn : n.toNat < N - 65 := by omega
          have hfI : fI t.m n = t.m n.toNat := by unfold fI; rw [if_pos (by omega)]
          rw [hfI] at c2
          refine ⟨fun k b hb => ?_, ?_⟩
          · have hb : (if k = n.toNat then some bs else t.m k) = some b := hb
            split at hb
            · rename_i e1; cases hb; exact ⟨by omega, by omega⟩
            · exact h.tk.wl k b hb
          · show (ksW (N - 65) fun j => if j = n.toNat then some bs else t.m j).length ≤ 63
            have h63 := h.tk.k63
            have := filter_one (l := List.range (N - 65)) List.nodup_range (k := n.toNat) (List.mem_range.2 hn) (p := fun j => (t.m j).isSome && !(j == n.toNat)) (p' := fun j => (if j = n.toNat then some bs else t.m j).isSome) (by simp) (fun j hj => by
              have : (j == n.toNat) = false := beq_eq_false_iff_ne.2 hj
              simp [hj, this])
            unfold ksW
            rw [this, if_pos (by simp)]
            cases hm : t.m n.toNat with
            | none =>
              have e2 : (List.range (N - 65)).filter (fun j => (t.m j).isSome && !(j == n.toNat)) = ksW (N - 65) t.m := List.filter_congr fun j _ => by
                by_cases e : j = n.toNat
                · subst e; rw [hm]; rfl
                · have : (j == n.toNat) = false := beq_eq_false_iff_ne.2 e
                  simp [this]
              rw [e2]
              have : ¬ (ksW (N - 65) t.m).length = 63 := fun e => c2 ⟨hm, e⟩
              omega
            | some b0 =>
              have := filter_one (l := List.range (N - 65)) List.nodup_range (k := n.toNat) (List.mem_range.2 hn) (p := fun j => (t.m j).isSome && !(j == n.toNat)) (p' := fun j => (t.m j).isSome) (by simp) (fun j hj => by
                have : (j == n.toNat) = false := beq_eq_false_iff_ne.2 hj
                simp [this])
              rw [if_pos (by rw [hm]; rfl)] at this
              unfold ksW at h63
              omega
  · simp only [e0, if_false]
    exact h.tk
theorem cCommit (h : LT W0 w gl g gt N x V t X) (hN : 65 < N ∧ N ≤ 16000) (ho : t.ov = false) (hp : 0 ≤ x.pn ∧ x.pn ≤ 1000000000) :
    Calls Try.prog 19 #[.pointer (some ⟨gt, 0, none⟩)] w fun e w' => e = .returned (.int .i64 0) ∧ ∃ y V', LT W0 w' gl g gt N y V' ⟨t.m, true⟩ X ∧ KeepX X w w' ∧ (∀ n, n < N - 65 → datP y V' n = (t.m n).getD (datP x V n)) ∧ y.op = false ∧ y.pn = (if fitsP (N - 65) x t = true then x.pn + 1 else 1) ∧ (∀ n, fitsP (N - 65) x t = true → V' n = V n) := by
  obtain ⟨S, F, ST, FT, h1, h2, h3, h4⟩ := h.ex
  obtain ⟨y, V', e, hl, hv, ho2, hp2, hv2⟩ := commit_ok h.la hN.1 h.tk ho
  refine (Commit_calls w h1 h2 h3 (M := 0) (by rw [show N - 65 + 65 = N by omega]; exact h.la.vw.fit) (by omega) (by omega) h.la.k63 hp).mono ?_
  rw [e]
  rintro e w' ⟨rfl, S', F', g1, g2, g3, g4, g5⟩
  have hT : ∀ k, ST k → k < w.heap.size := fun k hk => h2.lt hk
  refine ⟨rfl, y, V', ⟨⟨S', F', ST, FT, g1, g2, fun k hk hs => ?_, fun k hk => ?_⟩, hl, ⟨h.tk.wl, h.tk.k63⟩, below_chg h.bel g3 (fun k hk => (h4 k hk).1), fun k hk => Nat.lt_of_lt_of_le (h.xl k hk) g3.size⟩, KeepX.of_chg g3 (fun k hk => ⟨h.xl k hk, fun hs => (h4 k hs).2 hk⟩), hv, ho2, hp2, hv2⟩
  · rcases g4 k hk with h5 | h5
    · exact h3 k h5 hs
    · have := hT k hs; omega
  · rcases hk with hk | hk
    · rcases g4 k hk with h5 | h5
      · exact h4 k (.inl h5)
      · exact ⟨Nat.le_trans h.bel.size h5, fun hx => by have := h.xl k hx; omega⟩
    · exact h4 k (.inr hk)
theorem cAbort (h : LT W0 w gl g gt N x V t X) (ho : t.ov = false) :
    Calls Try.prog 25 #[.pointer (some ⟨gt, 0, none⟩)] w fun e w' => e = .returned (.tuple #[]) ∧ LT W0 w' gl g gt N ⟨x.d, x.wt, x.pn, false⟩ V ⟨fun _ => none, true⟩ X ∧ KeepX X w w' := by
  obtain ⟨S, F, ST, FT, h1, h2, h3, h4⟩ := h.ex
  refine (Abort_calls w h1 h2 h3).mono ?_
  have e : abortP x t = (⟨x.d, x.wt, x.pn, false⟩, ⟨fun _ => none, true⟩) := by unfold abortP; rw [if_neg (by rw [ho]; decide)]
  rw [e]
  rintro e w' ⟨rfl, g1, g2, g3⟩
  exact ⟨rfl, ⟨⟨S, F, ST, FT, g1, g2, h3, h4⟩, ⟨h.la.vw, h.la.st, h.la.h0, h.la.wl, h.la.k63⟩, TOk.fresh _ _, below_chg h.bel g3 (fun k hk => (h4 k hk).1), fun k hk => Nat.lt_of_lt_of_le (h.xl k hk) g3.size⟩, KeepX.of_chg g3 (fun k hk => ⟨h.xl k hk, fun hs => (h4 k hs).2 hk⟩)⟩
theorem cTRead (h : LT W0 w gl g gt N x V t X) (hN : 65 < N ∧ N ≤ 16000) (n : Int) (n1 : -9223372036854775808 ≤ n) (n2 : n ≤ 9223372036854775807) :
    Calls Try.prog 69 #[.pointer (some ⟨gt, 0, none⟩), .int .i64 n] w (RdOut w (treadP x t n).1 (treadP x t n).2) := by
  obtain ⟨S, F, ST, FT, h1, h2, h3, h4⟩ := h.ex
  exact TRead_calls w h1 h2 h.la.vw.fit (by omega) (by omega) n n1 n2
end
/-- A disk alone in a caller's hands. -/
structure DC (W0 w : World) (g N : Nat) (d : Dk) (V : Nat → List UInt8) (X : Nat → Prop) : Prop where
  ex : ∃ S F, DO w g d S F ∧ ∀ k, S k → W0.heap.size ≤ k ∧ ¬ X k
  vw : Vw N 0 d V
  st : Stl d
  bel : Below W0.heap.size W0 w
  xl : ∀ k, X k → k < w.heap.size
section
variable {W0 w w' : World} {gl g N : Nat} {x : Lk} {d : Dk} {V : Nat → List UInt8} {X : Nat → Prop}
theorem LC.dc (h : LC W0 w gl g N x V X) : DC W0 w g N x.d V X := by
  obtain ⟨S, F, h1, h2⟩ := h.ex
  obtain ⟨Sd, h3, h4⟩ := h1.disk
  exact ⟨⟨Sd, F, h3, fun k hk => h2 k (h4 k hk)⟩, h.la.vw, h.la.st, h.bel, h.xl⟩
theorem DC.wrote (h : DC W0 w g N d V X) {S F : Nat → Prop} (h2 : ∀ k, S k → W0.heap.size ≤ k ∧ ¬ X k) {d' : Dk} {V' : Nat → List UInt8} (hw : WroteO w S F g d' w') (hv : Vw N 0 d' V') (hs : Stl d') : DC W0 w' g N d' V' X ∧ KeepX X w w' := by
  obtain ⟨S', F', g1, g2, g3, g4⟩ := hw
  refine ⟨⟨⟨S', F', g1, fun k hk => ?_⟩, hv, hs, below_chg h.bel g2 (fun k hk => (h2 k hk).1), fun k hk => Nat.lt_of_lt_of_le (h.xl k hk) g2.size⟩, KeepX.of_chg g2 (fun k hk => ⟨h.xl k hk, fun hs => (h2 k hs).2 hk⟩)⟩
  rcases g3 k hk with h5 | h5
  · exact h2 k h5
  · exact ⟨Nat.le_trans h.bel.size h5, fun hx => by have := h.xl k hx; omega⟩
/-- What a Format or an Open that goes well leaves. -/
def NewLC (W0 w : World) (g N : Nat) (d : Dk) (V : Nat → List UInt8) (X : Nat → Prop) (e : Ending) (w' : World) : Prop := ∃ gl, e = .returned (.tuple #[.pointer (some ⟨gl, 0, none⟩), .int .i64 0]) ∧ LC W0 w' gl g N (freshK d) V X ∧ KeepX X w w'
theorem DC.logs (h : DC W0 w g N d V X) {S F : Nat → Prop} (h2 : ∀ k, S k → W0.heap.size ≤ k ∧ ¬ X k) {d' : Dk} {V' : Nat → List UInt8} {e : Ending} (ho : FormatOut w S F g (0, d') e w') (hv : Vw N 0 d' V') (hs : Stl d') (h0 : V' 0 = headP []) : NewLC W0 w g N d' V' X e w' := by
  rcases ho with ⟨a, _⟩ | ⟨_, gl, rfl, hgl, S', F', g1, g2, g3, g4⟩
  · exact absurd rfl a
  · refine ⟨gl, rfl, ⟨⟨S', F', g1, fun k hk => ?_⟩, LA.fresh hv hs h0, below_chg h.bel g2 (fun k hk => (h2 k hk).1), fun k hk => Nat.lt_of_lt_of_le (h.xl k hk) g2.size⟩, KeepX.of_chg g2 (fun k hk => ⟨h.xl k hk, fun hs => (h2 k hs).2 hk⟩)⟩
    rcases g3 k hk with h5 | h5
    · exact h2 k h5
    · exact ⟨Nat.le_trans h.bel.size h5, fun hx => by have := h.xl k hx; omega⟩
theorem cFormat (h : DC W0 w g N d V X) (hN : 65 < N ∧ N ≤ 16000) : Calls Try.prog 28 #[.pointer (some ⟨g, 0, none⟩)] w fun e w' => ∃ d', NewLC W0 w g N d' fmtV X e w' := by
  obtain ⟨S, F, h1, h2⟩ := h.ex
  obtain ⟨d', e, hv, hs⟩ := format_ok h.vw hN.1
  refine (Format_calls w h1 (h.vw.fit.mono (by omega)) (by omega)).mono ?_
  rw [e]
  exact fun e w' ho => ⟨d', h.logs h2 ho hv hs rfl⟩
theorem cOpen (h : DC W0 w g N d V X) (hN : 65 < N ∧ N ≤ 16000) (h0 : V 0 = headP []) : Calls Try.prog 32 #[.pointer (some ⟨g, 0, none⟩)] w (NewLC W0 w g N d V X) := by
  obtain ⟨S, F, h1, h2⟩ := h.ex
  have e := open_ok h.vw hN.1 h0 (by omega)
  refine (Open_calls w h1 h.vw.fit (by omega) (by omega)).mono ?_
  rw [e]
  exact fun e w' ho => h.logs h2 ho h.vw h.st h0
/-- Cut; the disk is off behind it: the two calls are made one behind the other. -/
structure DOff (W0 w : World) (g N : Nat) (d : Dk) (V : Nat → List UInt8) (X : Nat → Prop) : Prop where
  ex : ∃ S F, DO w g d S F ∧ ∀ k, S k → W0.heap.size ≤ k ∧ ¬ X k
  vw : Vw N 0 (onD d) V
  st : Stl (onD d)
  bel : Below W0.heap.size W0 w
  xl : ∀ k, X k → k < w.heap.size
theorem cCut (h : DC W0 w g N d V X) (hN : N ≤ 16000) (v : Value) (picks : List Int) (hv : Rd w v (ivs picks)) (hvn : picks ≠ [] → ∀ j, v.ownBlock = some j → j < W0.heap.size) (hpl : picks.length ≤ 1000000000000) :
    Calls Try.prog 30 #[.pointer (some ⟨g, 0, none⟩), v] w fun e w' => e = .returned (.tuple #[]) ∧ DOff W0 w' g N (cutD d picks) V X ∧ KeepX X w w' := by
  obtain ⟨S, F, h1, h2⟩ := h.ex
  refine (Cut_callsO w g d S h1 h.vw.of (by rw [h.vw.dl]; omega) (by have := h.vw.wt; omega) v picks hv (fun hne j hj hs => by have := hvn hne j hj; have := (h2 j hs).1; omega) hpl).mono ?_
  rintro e w' ⟨rfl, S', F', g1, g2, g3, g4⟩
  obtain ⟨a, b⟩ := cut_on h.vw h.st picks
  refine ⟨rfl, ⟨⟨S', F', g1, fun k hk => ?_⟩, a, b, below_chg h.bel g2 (fun k hk => (h2 k hk).1), fun k hk => Nat.lt_of_lt_of_le (h.xl k hk) g2.size⟩, KeepX.of_chg g2 (fun k hk => ⟨h.xl k hk, fun hs => (h2 k hs).2 hk⟩)⟩
  rcases g3 k hk with h5 | h5
  · exact h2 k h5
  · exact ⟨Nat.le_trans h.bel.size h5, fun hx => by have := h.xl k hx; omega⟩
theorem cOn (h : DOff W0 w g N d V X) : Calls Try.prog 31 #[.pointer (some ⟨g, 0, none⟩)] w fun e w' => e = .returned (.tuple #[]) ∧ DC W0 w' g N (onD d) V X ∧ KeepX X w w' := by
  obtain ⟨S, F, h1, h2⟩ := h.ex
  refine (On_callsO w g d S h1).mono ?_
  rintro e w' ⟨rfl, S', F', g1, g2, g3, g4⟩
  refine ⟨rfl, ⟨⟨S', F', g1, fun k hk => ?_⟩, h.vw, h.st, below_chg h.bel g2 (fun k hk => (h2 k hk).1), fun k hk => Nat.lt_of_lt_of_le (h.xl k hk) g2.size⟩, KeepX.of_chg g2 (fun k hk => ⟨h.xl k hk, fun hs => (h2 k hs).2 hk⟩)⟩
  rcases g3 k hk with h5 | h5
  · exact h2 k h5
  · exact ⟨Nat.le_trans h.bel.size h5, fun hx => by have := h.xl k hx; omega⟩
theorem cNew (w : World) (N : Nat) (h1 : 1 ≤ N) (h2 : N ≤ 16384) : Calls Try.prog 27 #[.int .i64 (N : Int)] w fun e w' => ∃ g, e = .returned (.tuple #[.pointer (some ⟨g, 0, none⟩), .int .i64 0]) ∧ DC w w' g N (newD N) (fun _ => zblk) (fun _ => False) := by
  refine (New_callsO w (N : Int)).mono ?_
  intro e w' h
  unfold NewO at h
  rw [if_neg (by omega)] at h
  obtain ⟨g, S, F, rfl, hd, hb, hs, _⟩ := h
  rw [Int.toNat_natCast] at hd
  obtain ⟨v1, v2⟩ := Vw.new N
  exact ⟨g, rfl, ⟨S, F, hd, fun k hk => ⟨hs k hk, id⟩⟩, v1, v2, hb, fun k hk => hk.elim⟩
theorem DC.below (h : DC W0 w g N d V X) (hb : Below w.heap.size w w') : DC W0 w' g N d V X := by
  obtain ⟨S, F, h1, h2⟩ := h.ex
  exact ⟨⟨S, F, h1.below hb, h2⟩, h.vw, h.st, h.bel.trans (hb.mono h.bel.size), fun k hk => Nat.lt_of_lt_of_le (h.xl k hk) hb.size⟩
end
end Go.Proofs.Ytefbmbfhhhjgkaa
