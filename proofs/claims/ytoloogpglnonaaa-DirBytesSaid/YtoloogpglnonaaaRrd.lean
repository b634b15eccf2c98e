import Derived.Test.YtoloogpglnonaaaWrp
import Derived.Test.YtoloogpglnonaaaDrs
import Derived.Deep.QuietTactic
import Derived.BigQuiet
namespace Go.Proofs.Ytoloogpglnonaaa
open Go.RowKit
/- The document's own reader: its bytes stay, a place goes on. -/
theorem Rd.far8 {w : World} {v : Value} {bs : List UInt8} (h : Rd w v (bvs bs)) {p : Addr} (hp : bs ≠ [] → v.ownBlock ≠ some p.block) (u : Value) : Rd (w.setCell p u) v (bvs bs) := by
  by_cases hb : bs = []
  · subst hb
    obtain ⟨A, c, rfl⟩ := h.shape8
    exact Rd.nil _ _ _
  · exact h.far (hp hb) u
theorem Rd.chg8 {S : Nat → Prop} {w w' : World} {v : Value} {bs : List UInt8} (h : Rd w v (bvs bs)) (hb : Chg S w w') (hn : bs ≠ [] → ∀ k, v.ownBlock = some k → ¬ S k) : Rd w' v (bvs bs) := by
  by_cases hb0 : bs = []
  · subst hb0
    obtain ⟨A, c, rfl⟩ := h.shape8
    exact Rd.nil _ _ _
  · exact h.chg hb (hn hb0)
structure RRd (w : World) (g : Nat) (b : Value) (bs : List UInt8) (p : Nat) (err : Int) : Prop where
  blk : Blk w g 87 #[b, .int .i64 p, .int .i64 err]
  rd : Rd w b (bvs bs)
  ne : bs ≠ [] → b.ownBlock ≠ some g
  le : p ≤ bs.length
theorem RRd.drewN {w : World} {g : Nat} {b : Value} {bs : List UInt8} {p : Nat} {err : Int} (h : RRd w g b bs p err) (n : Nat) : RRd (w.drewN n) g b bs p err := ⟨h.blk, h.rd, h.ne, h.le⟩
theorem RRd.chg {S : Nat → Prop} {w w' : World} {g : Nat} {b : Value} {bs : List UInt8} {p : Nat} {err : Int} (h : RRd w g b bs p err) (hb : Chg S w w') (hg : ¬ S g) (hn : bs ≠ [] → ∀ k, b.ownBlock = some k → ¬ S k) : RRd w' g b bs p err :=
  ⟨h.blk.chg hb hg, h.rd.chg8 hb hn, h.ne, h.le⟩
theorem RRd.below {w w' : World} {g : Nat} {b : Value} {bs : List UInt8} {p : Nat} {err : Int} (h : RRd w g b bs p err) (hb : Below w.heap.size w w') : RRd w' g b bs p err :=
  h.chg (Chg.of_below hb) (S := fun _ => False) id (fun _ _ _ => id)
def RNumOut (w : World) (g : Nat) (b : Value) (bs : List UInt8) (o : List UInt8 × List UInt8 × Int) (e : Ending) (w' : World) : Prop :=
  e = .returned (.int .i64 (numP o.1)) ∧ ∃ p, RRd w' g b bs p o.2.2 ∧ bs.drop p = o.2.1 ∧ Chg (fun k => k = g) w w'
def RFixOut (w : World) (g : Nat) (b : Value) (bs : List UInt8) (o : List UInt8 × List UInt8 × Int) (e : Ending) (w' : World) : Prop :=
  ∃ out p, e = .returned out ∧ Own8 w' out o.1 ∧ RRd w' g b bs p o.2.2 ∧ bs.drop p = o.2.1 ∧ Chg (fun k => k = g) w w' ∧ (∀ k, out.ownBlock = some k → w.heap.size ≤ k)
theorem numP_step (l : List UInt8) {k : Nat} (h : k < l.length) : numP (l.drop k) = l[k].toNat + 256 * numP (l.drop (k + 1)) := by
  rw [List.drop_eq_getElem_cons h]
  rfl
theorem or_low (q c : Nat) (hq : 256 * q < 9223372036854775808) (hc : c < 256) : bits .or .i64 ((256 * q : Nat) : Int) (c : Int) = ((c + 256 * q : Nat) : Int) := by
  rw [bits_or_i64 _ _ hq (by omega)]
  have := Nat.two_pow_add_eq_or_of_lt (i := 8) (b := c) (by omega) q
  rw [show (2 : Nat) ^ 8 = 256 from rfl] at this
  rw [← this, Nat.add_comm]
set_option maxRecDepth 10000 in
set_option maxHeartbeats 1000000 in
theorem RRNumber_calls (w : World) (g : Nat) (b : Value) (bs : List UInt8) (p : Nat) (err : Int) (m : Nat) (h : RRd w g b bs p err) (hl : bs.length ≤ 1000000000) (hm : m ≤ 4) :
    Calls Try.prog 48 #[.pointer (some ⟨g, 0, none⟩), .int .i64 m] w (RNumOut w g b bs (takeP (bs.drop p) err m)) := by
  have c0 := h.blk.cell 0
  have c1 := h.blk.cell 1
  have c2 := h.blk.cell 2
  have f1 := h.blk.frozen 1
  have f2 := h.blk.frozen 2
  have hle := h.le
  obtain ⟨A, c, rfl⟩ := h.rd.shape8
  by_cases he : err = 0
  · subst he
    by_cases hm2 : bs.length < p + m
    · have ht : takeP (bs.drop p) 0 m = ([], bs.drop p, 2) := by
        unfold takeP
        rw [if_neg (by decide), if_neg (by omega), if_pos (by rw [List.length_drop]; omega)]
      rw [ht]
      clear ht
      have hd : decide ((bs.length : Int) - (p : Int) < (m : Int)) = true := by
        rw [decide_eq_true_iff]; omega
      go_enter Try.func48, Try.ntmps48
      go_wp2_with fail
      go_quiet (fail)
      have hN := h.drewN nq
      have hC := (Chg.refl (fun k => k = g) w).drewN nq
      clear c0 c1 c2 f1 f2
      generalize w.drewN nq = wn at *
      have c0 := hN.blk.cell 0
      have c1 := hN.blk.cell 1
      have c2 := hN.blk.cell 2
      have f2 := hN.blk.frozen 2
      go_wp2
      go_ret
      exact ⟨rfl, p, ⟨hN.blk.set_ 2 _, hN.rd.far8 (by exact hN.ne) _, hN.ne, hN.le⟩, rfl, hC.setCell (p := ⟨g, 2, none⟩) (fun _ => rfl) _⟩
    · have ht : takeP (bs.drop p) 0 m = ((bs.drop p).take m, (bs.drop p).drop m, 0) := by
        unfold takeP
        rw [if_neg (by decide), if_neg (by omega), if_neg (by rw [List.length_drop]; omega), Int.toNat_natCast]
      rw [ht]
      clear ht
      have hd : decide ((bs.length : Int) - (p : Int) < (m : Int)) = false := by
        rw [decide_eq_false_iff_not]; omega
      obtain ⟨l, hlq⟩ : ∃ l, Hid (l = (bs.drop p).take m) := ⟨_, rfl⟩
      have hll : Hid (l.length = m) := by
        show _ = _
        rw [hlq.out, List.length_take, List.length_drop]; omega
      have hget : ∀ k (hk : k < l.length), Hid ((bvs bs)[p + k]? = some (.int .u8 l[k].toNat)) := by
        intro k hk
        show _ = _
        have e : l[k]? = bs[p + k]? := by
          rw [hlq.out, List.getElem?_take, if_pos (by have := hll.out; omega), List.getElem?_drop]
        rw [List.getElem?_eq_getElem hk] at e
        simp [bvs, bv, ← e]
      go_enter Try.func48, Try.ntmps48
      go_wp2_with fail
      go_quiet (fail)
      have hN := h.drewN nq
      have hC := (Chg.refl (fun k => k = g) w).drewN nq
      have hW := Lib.hid (And.intro hN hC)
      clear c0 c1 c2 f1 f2 hN hC
      generalize w.drewN nq = wn at *
      go_wp2
      go_loopw [5, 6] (fun n i wr => ∃ (k : Nat), k ≤ l.length ∧ i = .int .i64 ((k : Int) - 1) ∧ n = .int .i64 (numP (l.drop k)) ∧ Hid (RRd wr g (.slice A bs.length c) bs p 0 ∧ Chg (fun k => k = g) w wr)) (fun _ i _ => (intOf i + 1).toNat)
      case atStart => exact ⟨m, by rw [hll.out]; exact Nat.le_refl _, rfl, by rw [List.drop_of_length_le (by rw [hll.out]; exact Nat.le_refl _)]; rfl, hW⟩
      case round =>
        obtain ⟨k, hk, rfl, rfl, hW⟩ := hrel
        have hN := hW.out.1
        have c0 := hN.blk.cell 0
        have c1 := hN.blk.cell 1
        have c2 := hN.blk.cell 2
        have f1 := hN.blk.frozen 1
        rcases k with _ | k
        · rw [show ((0 : Nat) : Int) - 1 = -1 from rfl]
          have hl1 := hlq
          rw [List.drop_zero]
          have hrs : Hid ((p : Int) + m = ((p + m : Nat) : Int)) := by show _ = _; omega
          clear hget hll
          go_wp2
          go_ret
          rw [hrs.out]
          refine ⟨by rw [hlq.out]; rfl, p + m, ⟨hN.blk.set_ 1 _, hN.rd.far8 (by exact hN.ne) _, hN.ne, by omega⟩, by rw [List.drop_drop], hW.out.2.setCell (p := ⟨g, 1, none⟩) (fun _ => rfl) _⟩
        · have hst := Lib.hid (numP_step l (k := k) (by omega))
          have hg2 := hget k (by omega)
          obtain ⟨q, hq⟩ : ∃ q, q = numP (l.drop (k + 1)) := ⟨_, rfl⟩
          rw [← hq] at hst ⊢
          have hq2 : q < 16777216 := by
            rw [hq]
            refine Nat.lt_of_lt_of_le (numP_lt _) ?_
            rw [List.length_drop]
            exact Nat.le_trans (Nat.pow_le_pow_right (by omega) (show l.length - (k + 1) ≤ 3 by have := hll.out; omega)) (by decide)
          have hlk : p + k < bs.length := by have := hll.out; omega
          clear hq hget
          have hb := l[k].toNat_lt
          generalize l[k] = bk at *
          obtain ⟨ad, rfl⟩ : ∃ ad, A = some ad := by
            obtain ⟨ad, c', e, _⟩ := hN.rd.at8 hlk
            injection e with e _ _
            exact ⟨ad, e⟩
          rw [show ((k + 1 : Nat) : Int) - 1 = (k : Int) by omega]
          have hor := or_low q bk.toNat (by omega) (by omega)
          rw [← hst.out, Int.natCast_mul, Int.mul_comm] at hor
          have hor : Hid (bits .or .i64 ((q : Int) * 256) (bk.toNat : Int) = (numP (l.drop k) : Int)) := hor
          have c3 := rd_at (k := p + k) hN.rd hg2
          go_wp2_with fail
          go_quiet (fail)
          have hW2 : Hid (RRd (wr.drewN nq) g (.slice (some ad) bs.length c) bs p 0 ∧ Chg (fun k => k = g) w (wr.drewN nq)) := ⟨hN.drewN nq, hW.out.2.drewN nq⟩
          rw [hor.out]
          clear c0 c1 c2 c3 f1 hN hW
          go_wp2
          go_roundw
          case rel => exact ⟨k, by omega, rfl, rfl, hW2⟩
          case measure => simp [intOf]
  · have ht : takeP (bs.drop p) err m = ([], bs.drop p, err) := by simp [takeP, he]
    rw [ht]
    clear ht
    have hb : (err != 0) = true := by simpa using he
    go_enter Try.func48, Try.ntmps48
    go_wp2
    go_ret
    exact ⟨rfl, p, h, rfl, Chg.refl _ _⟩
theorem rd_cap {w : World} {A : Option Addr} {m c c' : Nat} {us : List Value} (h : Rd w (.slice A m c) us) (hc : m ≤ c') : Rd w (.slice A m c') us := by
  obtain ⟨A1, c1, e, hl, hr⟩ := h
  injection e with e1 e2 e3
  subst e1 e2
  exact ⟨A, c', rfl, hc, hr⟩
set_option maxRecDepth 10000 in
set_option maxHeartbeats 1000000 in
theorem RRFixed_calls (w : World) (g : Nat) (b : Value) (bs : List UInt8) (p : Nat) (err n : Int) (h : RRd w g b bs p err) (hl : bs.length ≤ 1000000000) (n1 : -9223372036854775808 ≤ n) (n2 : n ≤ 9223372036854775807) :
    Calls Try.prog 49 #[.pointer (some ⟨g, 0, none⟩), .int .i64 n] w (RFixOut w g b bs (takeP (bs.drop p) err n)) := by
  obtain ⟨i0, hi, hz0, hz1, hz2⟩ := info_parts Try.info_u8
  have c0 := h.blk.cell 0
  have c1 := h.blk.cell 1
  have c2 := h.blk.cell 2
  have f1 := h.blk.frozen 1
  have f2 := h.blk.frozen 2
  have hle := h.le
  obtain ⟨A, c, rfl⟩ := h.rd.shape8
  by_cases he : err = 0
  · subst he
    by_cases hn : n < 0
    · have ht : takeP (bs.drop p) 0 n = ([], bs.drop p, 1) := by simp [takeP, hn]
      rw [ht]
      clear ht
      go_enter Try.func49, Try.ntmps49
      go_wp2
      go_ret
      exact ⟨_, p, rfl, World.ownsRow_nil _ _ _ _, ⟨h.blk.set_ 2 _, h.rd.far8 (by exact h.ne) _, h.ne, h.le⟩, rfl, (Chg.refl (fun k => k = g) w).setCell (p := ⟨g, 2, none⟩) (fun _ => rfl) _, fun k hk => by simp [Value.ownBlock] at hk⟩
    · obtain ⟨m, rfl⟩ := Int.eq_ofNat_of_zero_le (show 0 ≤ n by omega)
      by_cases hm2 : bs.length < p + m
      · have ht : takeP (bs.drop p) 0 (m : Int) = ([], bs.drop p, 2) := by
          unfold takeP
          rw [if_neg (by decide), if_neg (by omega), if_pos (by rw [List.length_drop]; omega)]
        rw [ht]
        clear ht
        have hd : decide ((bs.length : Int) - (p : Int) < (m : Int)) = true := by
          rw [decide_eq_true_iff]; omega
        go_enter Try.func49, Try.ntmps49
        go_wp2_with fail
        go_quiet (fail)
        have hN := h.drewN nq
        have hC := (Chg.refl (fun k => k = g) w).drewN nq
        clear c0 c1 c2 f1 f2
        generalize w.drewN nq = wn at *
        have c2 := hN.blk.cell 2
        have f2 := hN.blk.frozen 2
        go_wp2
        go_ret
        exact ⟨_, p, rfl, World.ownsRow_nil _ _ _ _, ⟨hN.blk.set_ 2 _, hN.rd.far8 (by exact hN.ne) _, hN.ne, hN.le⟩, rfl, hC.setCell (p := ⟨g, 2, none⟩) (fun _ => rfl) _, fun k hk => by simp [Value.ownBlock] at hk⟩
      · have ht : takeP (bs.drop p) 0 (m : Int) = ((bs.drop p).take m, (bs.drop p).drop m, 0) := by
          unfold takeP
          rw [if_neg (by decide), if_neg (by omega), if_neg (by rw [List.length_drop]; omega), Int.toNat_natCast]
        rw [ht]
        clear ht
        have hd : decide ((bs.length : Int) - (p : Int) < (m : Int)) = false := by
          rw [decide_eq_false_iff_not]; omega
        go_enter Try.func49, Try.ntmps49
        go_wp2_with fail
        go_quiet (fail)
        have hN := h.drewN nq
        have hC := (Chg.refl (fun k => k = g) w).drewN nq
        clear c0 c1 c2 f1 f2
        generalize w.drewN nq = wn at *
        have c0 := hN.blk.cell 0
        have c1 := hN.blk.cell 1
        have c2 := hN.blk.cell 2
        have f1 := hN.blk.frozen 1
        have hrs : Hid ((p : Int) + m = ((p + m : Nat) : Int)) := by show _ = _; omega
        have hmc : bs.length ≤ c := by
          obtain ⟨A', c', e, hl, _⟩ := hN.rd
          injection e with _ _ e3
          rw [e3, ← bvs_length bs]; exact hl
        have r2 := rd_drop hN.rd hle
        have hN2 : RRd (wn.setCell ⟨g, 1, none⟩ (.int .i64 ((p + m : Nat) : Int))) g (.slice A bs.length c) bs (p + m) 0 := ⟨hN.blk.set_ 1 _, hN.rd.far8 (by exact hN.ne) _, hN.ne, by omega⟩
        have hC2 := hC.setCell (p := ⟨g, 1, none⟩) (fun _ => rfl) (.int .i64 ((p + m : Nat) : Int))
        have r3 := r2.far8 (p := ⟨g, 1, none⟩) (by intro hne; rw [own_drop A c p _ _ bs.length c]; exact hN.ne (by rintro rfl; simp at hne)) (.int .i64 ((p + m : Nat) : Int))
        have r4 := rd_take r3 (n := m) (by rw [List.length_drop]; omega)
        have R4 := Lib.hid r4
        have hN2h := Lib.hid hN2
        have hC2h := Lib.hid hC2
        clear hN2 hC2
        have hpm : p + m ≤ c := by omega
        clear r2 r3 r4
        obtain ⟨A', hif⟩ : ∃ A', (if c = p then A else Option.map (fun x => x.add p) A) = A' := ⟨_, rfl⟩
        rw [hif] at R4
        · go_wp2_with fail
          rw [hrs.out]
          clear c0 c1 c2 f1 hN hC
          generalize wn.setCell ⟨g, 1, none⟩ (.int .i64 ((p + m : Nat) : Int)) = w2 at *
          obtain ⟨N, hNe⟩ : ∃ N, N = p + m := ⟨_, rfl⟩
          rw [← hNe] at hN2h hpm
          have hsub : (N : Int) - (m : Int) = (p : Int) := by omega
          have hpN : p ≤ N := by omega
          have hwp : IntKind.i64.wrap (p : Int) = (p : Int) := by rw [IntKind.wrap_i64]; omega
          have hN1 : N ≤ 1000000000 := by omega
          have hpp : p ≤ 1000000000 := by omega
          have hNp : Hid (N - p = m) := by show _ = _; omega
          have hNh := Lib.hid hNe
          clear hNe hn
          refine wp_mix (fun W => RRd W g (.slice A bs.length c) bs N 0) [0, 16] (by kernel_rfl) (by kernel_rfl) (by kernel_rfl) (hN2h.out.drewN 1) ?_
          refine mixl rfl rfl (fun K hK => ?_)
          go_simp
          have hN3 := (hN2h.out.drewN 1).below ((Below.refl _ _).alloc (Nat.le_refl _) (.cells #[] 5))
          refine hK _ _ (fun _ => hN3) ?_
          clear hK K
          iterate 14 (refine mixq rfl rfl ?_ (fun w' hw' => Or.inl ?_) (fun K hK => ?_); rotate_left; (focus (have c0 := Blk.cell hw'.blk 0; have c1 := Blk.cell hw'.blk 1; go_simp; rfl)); go_simp; refine hK _ ?_; clear hK K)
          refine mixq rfl rfl ?_ (fun w' hw' => Or.inl ?_) (fun K hK => ?_)
          rotate_left
          · go_simp
            rfl
          go_simp
          refine hK _ ?_
          clear hK K
          refine mixl rfl rfl (fun K hK => ?_)
          have r5 : Rd ((w2.drewN 1).alloc (.cells #[] 5)) (.slice A' (N - p) (c - p)) (bvs ((bs.drop p).take m)) := by
            rw [hNp.out]
            refine Rd.alloc (Rd.drewN (rd_cap R4.out (by have := hNh.out; omega)) 1) _
          have hlt : ((bs.drop p).take m).length = m := by rw [List.length_take, List.length_drop]; have := hNh.out; omega
          refine wp_app _ rfl (us := bvs ((bs.drop p).take m)) (base := 0) Try.underlying30 hi hz0 hz1 hz2 rfl (World.ownsRow_made (w2.drewN 1) #[] 0 (Nat.zero_le _) (by unfold maxLen; omega) rfl) rfl r5 rfl (bvs_one _) ?_ ?_ (Nat.zero_le _) ?_
          · unfold maxLen; simp only [bvs_length, hlt]; omega
          · simp only [bvs_length, hlt]; omega
          intro v3 w3 hown hg hat
          have hown2 : Own8 w3 v3 ((bs.drop p).take m) := by simpa [Own8, bvs_length] using hown
          have e0 : (w2.drewN 1).heap.size = w2.heap.size := rfl
          have hB4 : Below (w2.drewN 1).heap.size (w2.drewN 1) w3 := ((Below.refl _ _).alloc (Nat.le_refl _) _).grown hg (by simp) (fun k hk => by simp [Value.ownBlock] at hk; omega)
          have hfr : ∀ k, v3.ownBlock = some k → w2.heap.size ≤ k := fun k hk => by
            rcases hat with e | e <;> rw [hk] at e <;> simp [Value.ownBlock] at e <;> omega
          have hN4 : RRd w3 g (.slice A bs.length c) bs N 0 := (hN2h.out.drewN 1).below hB4
          go_simp
          refine hK _ _ (fun _ => hN4) ?_
          clear hK K
          refine mixq rfl rfl ?_ (fun w' hw' => Or.inl ?_) (fun K hK => ?_); rotate_left; (focus (go_simp; rfl)); go_simp; refine hK _ ?_; clear hK K
          refine mix_nil ?_
          have hC4 : Chg (fun k => k = g) w w3 := (hC2h.out.drewN 1).then_ (Chg.of_below hB4) (fun i hi hf => False.elim hf)
          have hE : bs.drop N = (bs.drop p).drop m := by rw [List.drop_drop, hNh.out]
          have hsz := hC2h.out.size
          clear hg hat hown hB4 r5
          go_wp2
          go_ret
          exact ⟨v3, N, rfl, hown2, hN4, hE, hC4, fun k hk => Nat.le_trans hsz (hfr k hk)⟩
  · have ht : takeP (bs.drop p) err n = ([], bs.drop p, err) := by simp [takeP, he]
    rw [ht]
    clear ht
    have hb : (err != 0) = true := by simpa using he
    go_enter Try.func49, Try.ntmps49
    go_wp2
    go_ret
    exact ⟨_, p, rfl, World.ownsRow_nil _ _ _ _, h, rfl, Chg.refl _ _, fun k hk => by simp [Value.ownBlock] at hk⟩
end Go.Proofs.Ytoloogpglnonaaa
