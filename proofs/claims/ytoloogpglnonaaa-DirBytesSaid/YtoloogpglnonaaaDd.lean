/- Bytes as an entry. -/
import Derived.Test.YtoloogpglnonaaaDby
namespace Go.Proofs.Ytoloogpglnonaaa
open Go.RowKit
def zeroE : Ent := ⟨[], 0⟩
def rdE (x : List UInt8) : Ent := ⟨(x.drop 4).take (numA x 0 1), numA x 2 2⟩
def decD (b : List UInt8) : Ent × Int :=
  if b.length < 64 then (zeroE, 2) else if 64 < b.length then (zeroE, 5) else if b = List.replicate 64 0 then (zeroE, 0) else if (openP b).2 ≠ 0 then (zeroE, (openP b).2) else
    if 56 < numA (openP b).1 0 1 ∨ nameP (rdE (openP b).1).name = false ∨ (rdE (openP b).1).ino < 1 ∨ encE (rdE (openP b).1) ≠ b then (zeroE, 3) else (rdE (openP b).1, 0)
def DecE (w : World) (o : Ent × Int) (e : Ending) (w' : World) : Prop := e = .returned (.tuple #[.agg o.1.cells, .int .i64 o.2]) ∧ Below w.heap.size w w'
structure DA (w0 W : World) (g R : Nat) (b : Value) (rs : List UInt8) (err : Int) : Prop where
  rd : Rdr W g b rs err
  rb : Blk W R 43 zeroE.cells
  gR : g ≠ R
  below : Below w0.heap.size w0 W
  gw : w0.heap.size ≤ g
  rw : w0.heap.size ≤ R
  bl : ∀ k, b.ownBlock = some k → w0.heap.size ≤ k ∧ k ≠ R ∧ k < W.heap.size
theorem DA.chg {w0 W W' : World} {g R : Nat} {b b' : Value} {rs rs' : List UInt8} {err err' : Int} (h : DA w0 W g R b rs err) (h1 : Rdr W' g b' rs' err') (h2 : Chg (fun k => k = g) W W') (h3 : b'.ownBlock = b.ownBlock) : DA w0 W' g R b' rs' err' :=
  ⟨h1, h.rb.chg h2 (fun e => h.gR e.symm), h.gR, h.below.trans (h2.below h.below.size (fun k hk => by rw [hk]; exact h.gw)), h.gw, h.rw, fun k hk => by
    obtain ⟨p, q, r⟩ := h.bl k (by rw [← h3]; exact hk)
    exact ⟨p, q, Nat.lt_of_lt_of_le r h2.size⟩⟩
theorem DA.num {w0 W W' : World} {g R : Nat} {b : Value} {oi : List UInt8} {e : Ending} (k m : Nat) (h : DA w0 W g R b (oi.drop k) 0) (hm : k + m ≤ oi.length) (kk : NumOut W g b (takeP (oi.drop k) 0 (m : Int)) e W') :
    e = .returned (.int .i64 (numA oi k m : Nat)) ∧ ∃ b', DA w0 W' g R b' (oi.drop (k + m)) 0 := by
  rw [takeP_ok _ m (by rw [List.length_drop]; omega)] at kk
  obtain ⟨b', rfl, h1, h2, h3⟩ := kk
  rw [List.drop_drop] at h1
  exact ⟨rfl, b', h.chg h1 h2 h3⟩
theorem DA.stay {w0 W W' : World} {g R : Nat} {b : Value} {rs : List UInt8} {err : Int} (h : DA w0 W g R b rs err) (hb : Below W.heap.size W W') : DA w0 W' g R b rs err :=
  ⟨h.rd.below hb, h.rb.chg (Chg.of_below hb) (S := fun _ => False) id, h.gR, h.below.trans (hb.mono h.below.size), h.gw, h.rw, fun k hk => ⟨(h.bl k hk).1, (h.bl k hk).2.1, Nat.lt_of_lt_of_le (h.bl k hk).2.2 hb.size⟩⟩
theorem DA.far {w0 W : World} {g R P j : Nat} {b u : Value} {rs : List UInt8} {err : Int} (h : DA w0 W g R b rs err) (h1 : g ≠ P) (h2 : R ≠ P) (h3 : ∀ k, b.ownBlock = some k → k ≠ P) (h4 : w0.heap.size ≤ P) : DA w0 (W.setCell ⟨P, j, none⟩ u) g R b rs err :=
  ⟨⟨h.rd.blk.far h1 _, h.rd.rd.far (fun e => h3 _ e rfl) _, h.rd.ne⟩, h.rb.far h2 _, h.gR, h.below.setCell (p := ⟨P, j, none⟩) h4 _, h.gw, h.rw, fun k hk => by
    obtain ⟨p, q, r⟩ := h.bl k hk
    exact ⟨p, q, Nat.lt_of_lt_of_le r (((Below.refl 0 W).setCell (p := ⟨P, j, none⟩) (Nat.zero_le _) u).size)⟩⟩
theorem numA_lt2 (b : List UInt8) (k : Nat) : numA b k 2 ≤ 65535 := by
  have h1 := numP_lt ((b.drop k).take 2)
  have h2 : (256 : Nat) ^ ((b.drop k).take 2).length ≤ 65536 := Nat.le_trans (Nat.pow_le_pow_right (by omega) (show ((b.drop k).take 2).length ≤ 2 by rw [List.length_take]; omega)) (by decide)
  unfold numA
  omega
theorem endP_ok (rs : List UInt8) : (endP rs 0 == 2) = false := by
  unfold endP
  split <;> rfl
theorem run_mkr {P : Program} (t e : TypeId) (i : TypeInfo) (z : Value) (ht : P.underlying t = some (.slice e)) (hi : P.info? e = some i) (hz : i.zero = some z) (hzc : z.cells = #[z]) (hs : i.size = 1)
    (k : Nat) (hk : i.bytes * k ≤ 281474976710656) (h63 : k ≤ 9223372036854775807) (w : World) :
    (Instr.makeSlice t (.int .i64 (k : Int)) (.int .i64 (k : Int))).run P w = .ok (.slice (some ⟨w.heap.size, 0, none⟩) k k) (w.alloc (.cells (List.replicate k z).toArray e)) := by
  have hb : (i.bytes : Int) * (k : Int) ≤ 281474976710656 := by
    have h : ((i.bytes * k : Nat) : Int) ≤ 281474976710656 := by omega
    rwa [Int.natCast_mul] at h
  have hr := run_make (P := P) w t e i z ht hi hz .i64 .i64 k k (by omega) (by omega) hb (by omega)
  simp only [Int.toNat_natCast, hs, Nat.mul_one, hzc] at hr
  rw [hr]
  congr 2
  congr 1
  apply Array.ext'
  rw [toList_madeCells_one]
theorem rd_make0 (w : World) : Rd (w.alloc (.cells (List.replicate 64 (Value.int .u8 0)).toArray 5)) (.slice (some ⟨w.heap.size, 0, none⟩) 64 64) (bvs (List.replicate 64 0)) :=
  rd_mark w (bvs (List.replicate 64 0)) 5 64 (0, 0) rfl
set_option maxRecDepth 10000 in
set_option maxHeartbeats 8000000 in
theorem DecodeE_calls (w : World) (x : Value) (bs : List UInt8) (hx : Rd w x (bvs bs)) (hl : bs.length ≤ 100000000) : Calls Try.prog 19 #[x] w (DecE w (decD bs)) := by
  have hx0 := hx
  obtain ⟨A, c, rfl⟩ := hx.shape8
  by_cases h1 : bs.length < 64
  · have e : decD bs = (zeroE, 2) := by unfold decD; rw [if_pos h1]
    rw [e]
    clear e
    go_enter Try.func19, Try.ntmps19
    go_wp2
    (try simp only [Exit.inBlock, Exit.then])
    refine bodyPost_ret (results_cell_tmp (ty := 43) rfl rfl (loadVar_blk (Blk.new _ _ _) Try.underlying43 rfl (by kernel_rfl))) rfl ?_
    exact ⟨rfl, (Below.refl _ _).alloc (Nat.le_refl _) _⟩
  · by_cases h2 : 64 < bs.length
    · have e : decD bs = (zeroE, 5) := by unfold decD; rw [if_neg h1, if_pos h2]
      rw [e]
      clear e
      go_enter Try.func19, Try.ntmps19
      go_wp2
      (try simp only [Exit.inBlock, Exit.then])
      refine bodyPost_ret (results_cell_tmp (ty := 43) rfl rfl (loadVar_blk (Blk.new _ _ _) Try.underlying43 rfl (by kernel_rfl))) rfl ?_
      exact ⟨rfl, (Below.refl _ _).alloc (Nat.le_refl _) _⟩
    · have hlen : bs.length = 64 := by omega
      have hz : Hid (decD bs = if bs = List.replicate 64 0 then (zeroE, 0) else if (openP bs).2 ≠ 0 then (zeroE, (openP bs).2) else
          if 56 < numA (openP bs).1 0 1 ∨ nameP (rdE (openP bs).1).name = false ∨ (rdE (openP bs).1).ino < 1 ∨ encE (rdE (openP bs).1) ≠ bs then (zeroE, 3) else (rdE (openP bs).1, 0)) := by
        show _ = _
        unfold decD
        rw [if_neg h1, if_neg h2]
      have hopl : Hid ((openP bs).2 = 0 → (openP bs).1.length = 60) := by
        intro h0
        unfold openP at h0 ⊢
        split at h0
        · simp at h0
        · split at h0
          · rename_i ha hb
            rw [if_neg ha, if_pos hb]
            simp only [List.length_take]
            omega
          · simp at h0
      obtain ⟨i0, hi, hz0, hz1, hz2⟩ := info_parts Try.info_u8
      have hR0 : Blk (w.alloc (.cells zeroE.cells 43)) w.heap.size 43 zeroE.cells := Blk.new _ _ _
      have hB0 : Below w.heap.size w (w.alloc (.cells zeroE.cells 43)) := (Below.refl _ _).alloc (Nat.le_refl _) _
      obtain ⟨w0, hw0⟩ : ∃ w0, w0 = w.alloc (.cells zeroE.cells 43) := ⟨_, rfl⟩
      rw [← hw0] at hR0 hB0
      have hmk := run_mkr (P := Try.prog) 30 5 i0 (.int .u8 0) Try.underlying30 hi hz0 rfl hz1 64 (by rw [hz2]; omega) (by omega) w0
      have hmk1 : Sem.run Try.prog (Instr.makeSlice 30 (.int .i64 64) (.int .i64 64)) w0 = .ok (.slice (some ⟨w0.heap.size, 0, none⟩) 64 64) (w0.alloc (.cells (List.replicate 64 (Value.int .u8 0)).toArray 5)) := hmk
      have hZ := rd_make0 w0
      have hBz : Below w0.heap.size w0 (w0.alloc (.cells (List.replicate 64 (Value.int .u8 0)).toArray 5)) := (Below.refl _ _).alloc (Nat.le_refl _) _
      have hmk1 : Sem.run Try.prog (Instr.makeSlice 30 (.int .i64 64) (.int .i64 64)) (w.alloc (.cells #[.string ⟨#[]⟩, .int .i64 0] 43)) = .ok (.slice (some ⟨w0.heap.size, 0, none⟩) 64 64) (w0.alloc (.cells (List.replicate 64 (Value.int .u8 0)).toArray 5)) := by
        rw [hw0] at hmk1 ⊢
        exact hmk1
      generalize w0.alloc (.cells (List.replicate 64 (Value.int .u8 0)).toArray 5) = wz at *
      have hx64 : Rd w (.slice A 64 c) (bvs bs) := by rw [← hlen]; exact hx0
      have hQ := Lib.hid (Equal_calls wz (.slice A 64 c) _ bs (List.replicate 64 0) ((hx64.below hB0).below hBz) hZ)
      have hR0 := Lib.hid (hR0.chg (Chg.of_below hBz) (S := fun _ => False) id)
      have hB0 := Lib.hid (hB0.trans (hBz.mono hB0.size))
      have hx64 := Lib.hid hx64
      unfold zeroE Ent.cells at hw0
      simp only at hw0
      generalize hgz : w0.heap.size = gz at *
      clear hZ hBz hmk hi hz0 hz1 hz2 h1 h2 hx0 hx hgz
      have hL64 := Lib.hid hlen
      rw [hlen] at *
      clear hlen
      go_enter Try.func19, Try.ntmps19
      go_wp2_with fail
      refine hQ.out.mono ?_
      rintro e w1 ⟨rfl, rfl⟩
      by_cases hq : bs = List.replicate 64 0
      · have hqb : (bs == List.replicate 64 0) = true := by rw [hq]; exact beq_self_eq_true _
        have hz2 : Hid (decD bs = (zeroE, 0)) := by show _ = _; rw [hz.out, if_pos hq]
        rw [hqb]
        clear hq hqb hopl hz hL64 hmk1 hQ
        go_wp2_with (with_reducible refine stop_store 43 ?_)
        refine Stop.mk (wpList_store_row rfl 43 _ _ rfl w.heap.size zeroE.cells rfl rfl 43 zeroE.cells hR0.out (by kernel_rfl) rfl (by kernel_rfl) ?_)
        have hR2 : Blk (World.setRow wz w.heap.size zeroE.cells) w.heap.size 43 zeroE.cells := setRow_heap _ _ _ _ _ _ hR0.out
        have hB2 : Below w.heap.size w (World.setRow wz w.heap.size zeroE.cells) := below_setRow hB0.out (Nat.le_refl _) _
        generalize World.setRow wz w.heap.size zeroE.cells = w2 at *
        go_wp2
        (try simp only [Exit.inBlock, Exit.then])
        refine bodyPost_ret (results_cell_tmp (ty := 43) rfl rfl (loadVar_blk hR2 Try.underlying43 rfl (by kernel_rfl))) rfl ?_
        rw [hz2.out]
        exact ⟨rfl, hB2⟩
      · have hqb : (bs == List.replicate 64 0) = false := beq_eq_false_iff_ne.2 hq
        rw [hqb]
        have hz : Hid (decD bs = if (openP bs).2 ≠ 0 then (zeroE, (openP bs).2) else
            if 56 < numA (openP bs).1 0 1 ∨ nameP (rdE (openP bs).1).name = false ∨ (rdE (openP bs).1).ino < 1 ∨ encE (rdE (openP bs).1) ≠ bs then (zeroE, 3) else (rdE (openP bs).1, 0)) := by
          show _ = _
          rw [hz.out, if_neg hq]
        have HO := Open_calls wz _ bs (by have := hx64.out.below hB0.out; exact this) hl
        obtain ⟨op, hop⟩ : ∃ op, Hid (openP bs = op) := ⟨_, rfl⟩
        rw [hop.out] at HO hz hopl
        have HO := Lib.hid HO
        clear hq hqb hmk1 hQ
        go_wp2_with fail
        refine HO.out.mono ?_
        rintro e w1 ⟨r1, rfl, ho1, hB1, hf1⟩
        obtain ⟨oi, oe⟩ := op
        simp only at ho1 hopl hz hf1 ⊢
        have hB1' := hB0.out.trans (hB1.mono hB0.out.size)
        have hR1 := hR0.out.chg (Chg.of_below hB1) (S := fun _ => False) id
        by_cases he : oe = 0
        · subst he
          have hL := hopl.out rfl
          have hz : Hid (decD bs = if 56 < numA oi 0 1 ∨ nameP (rdE oi).name = false ∨ (rdE oi).ino < 1 ∨ encE (rdE oi) ≠ bs then (zeroE, 3) else (rdE oi, 0)) := by
            show _ = _
            rw [hz.out, if_neg (by simp)]
          have hLh := Lib.hid hL
          have ho1h := Lib.hid ho1
          obtain ⟨A1, c1, rfl⟩ := ho1.shape
          have hR1h := Lib.hid hR1
          have hB1h := Lib.hid hB1'
          rw [hL]
          clear hL hopl ho1 hR1 hB1' hf1
          go_wp2_with fail
          refine (NewReader3_calls w1 _ oi (by have := Rd.of_own ho1h.out; rw [hLh.out] at this; exact this) (by have := hLh.out; omega)).mono ?_
          rintro e w2 ⟨g, b, rfl, hg, hR, hB2, hb⟩
          have hgw : w.heap.size ≤ g := Nat.le_trans hB1h.out.size hg
          have hRl := hR1h.out.lt
          have hS := Lib.hid (show DA w w2 g w.heap.size b (oi.drop 0) 0 from ⟨hR, hR1h.out.chg (Chg.of_below hB2) (S := fun _ => False) id, by omega, hB1h.out.trans (hB2.mono hB1h.out.size), hgw, Nat.le_refl _, fun k hk => ⟨by have := (hb k hk).1; omega, by have := (hb k hk).1; omega, (hb k hk).2⟩⟩)
          clear hR hB2 hb hg hgw hRl
          have hU := Lib.hid (RU8_calls w2 g b _ 0 hS.out.rd (by have := hLh.out; rw [List.length_drop]; omega))
          go_wp2_with fail
          refine hU.out.mono ?_
          intro e w3 kk
          obtain ⟨rfl, b3, hS3⟩ := hS.out.num 0 1 (by have := hLh.out; omega) kk
          have hS3 := Lib.hid hS3
          clear hU kk hS
          have hU := Lib.hid (RU8_calls w3 g b3 _ 0 hS3.out.rd (by have := hLh.out; rw [List.length_drop]; omega))
          go_wp2_with fail
          refine hU.out.mono ?_
          intro e w4 kk
          obtain ⟨rfl, b4, hS4⟩ := hS3.out.num 1 1 (by have := hLh.out; omega) kk
          have hS4 := Lib.hid hS4
          clear hU kk hS3
          have hU := Lib.hid (RU16_calls w4 g b4 _ 0 hS4.out.rd (by have := hLh.out; rw [List.length_drop]; omega))
          go_wp2_with fail
          refine hU.out.mono ?_
          intro e w5 kk
          obtain ⟨rfl, b5, hS5⟩ := hS4.out.num 2 2 (by have := hLh.out; omega) kk
          have hS5 : Hid (DA w w5 g w.heap.size b5 (oi.drop 4) 0) := hS5
          clear hU kk hS4
          obtain ⟨N, hN⟩ : ∃ N, Hid (N = numA oi 0 1) := ⟨_, rfl⟩
          obtain ⟨I, hI⟩ : ∃ I, Hid (I = numA oi 2 2) := ⟨_, rfl⟩
          have hN8 : Hid (N ≤ 255) := by
            show _ ≤ _
            have h1 := numP_lt ((oi.drop 0).take 1)
            have h2 : (256 : Nat) ^ ((oi.drop 0).take 1).length ≤ 256 := Nat.le_trans (Nat.pow_le_pow_right (by omega) (show ((oi.drop 0).take 1).length ≤ 1 by rw [List.length_take]; omega)) (by decide)
            rw [hN.out]
            unfold numA
            omega
          have hI16 : Hid (I ≤ 65535) := by rw [hI.out]; exact numA_lt2 oi 2
          rw [← hN.out, ← hI.out]
          have hrd : Hid (rdE oi = ⟨(oi.drop 4).take N, (I : Int)⟩) := by
            show _ = _
            unfold rdE
            rw [hN.out, hI.out]
          rw [hrd.out, ← hN.out] at hz
          have hPb : Blk (w5.alloc (.cells #[.string ⟨#[]⟩, .int .i64 I] 43)) w5.heap.size 43 #[.string ⟨#[]⟩, .int .i64 I] := Blk.new _ _ _
          have hBp : Below w5.heap.size w5 (w5.alloc (.cells #[.string ⟨#[]⟩, .int .i64 I] 43)) := (Below.refl _ _).alloc (Nat.le_refl _) _
          obtain ⟨w6, hw6⟩ : ∃ w6, w6 = w5.alloc (.cells #[.string ⟨#[]⟩, .int .i64 I] 43) := ⟨_, rfl⟩
          rw [← hw6] at hPb hBp
          have hS6 := Lib.hid (hS5.out.stay hBp)
          have hgP : Hid (g ≠ w5.heap.size ∧ w.heap.size < w5.heap.size ∧ ∀ k, b5.ownBlock = some k → k ≠ w5.heap.size) := ⟨by have := hS5.out.rd.blk.lt; omega, hS5.out.rb.lt, fun k hk => by have := (hS5.out.bl k hk).2.2; omega⟩
          have hPb := Lib.hid hPb
          generalize hPq : w5.heap.size = P at *
          clear hBp hS5
          have hU := Lib.hid (RFixed_calls w6 g b5 _ 0 N hS6.out.rd (by have := hLh.out; rw [List.length_drop]; omega))
          go_wp2_with fail
          rw [← hw6]
          clear hw6
          refine hU.out.mono ?_
          rintro e w7 ⟨out, b7, rfl, hout, h7r, h7c, h7n, h7b⟩
          have hS7 := Lib.hid (hS6.out.chg h7r h7c h7b)
          have hP7 := Lib.hid (hPb.out.chg h7c (fun e => hgP.out.1 e.symm))
          have s1 := run_str (P := Try.prog) w7 30 9 5 _ _ Try.underlying30 Try.underlying5 Try.underlying9 (Rd.of_own hout)
          unfold str at s1
          obtain ⟨Ao, co, rfl⟩ := hout.shape
          clear hU hS6 hPb hout h7r h7c h7n
          have f0 : w7.cell? ⟨P, 0, none⟩ = some (.string ⟨#[]⟩) := hP7.out.cell 0
          have fr := hP7.out.frozen 0
          by_cases hN56 : 56 < N
          · have ht : takeP (oi.drop 4) 0 (N : Int) = ([], oi.drop 4, 2) := by
              unfold takeP
              rw [if_neg (by decide), if_neg (by omega), if_pos (by rw [List.length_drop]; have := hLh.out; omega)]
            rw [ht] at hS7 s1 ⊢
            have hz2 : Hid (decD bs = (zeroE, 3)) := by show _ = _; rw [hz.out, if_pos (.inl hN56)]
            simp only [List.length_nil] at s1 ⊢
            have hS8 := Lib.hid (hS7.out.far (j := 0) (u := .string ⟨#[]⟩) hgP.out.1 (by have := hgP.out.2.1; omega) (fun k hk => hgP.out.2.2 k (by rw [← h7b]; exact hk)) (by have := hgP.out.2.1; omega))
            clear ht hz hN56 hS7
            have hEn := Lib.hid (REnd_calls _ g b7 _ 2 hS8.out.rd)
            have hR8 := Lib.hid hS8.out.rb
            have hB8 := Lib.hid hS8.out.below
            go_wp2_with fail
            have hEn := hEn.out
            generalize hw8 : w7.setCell ⟨P, 0, none⟩ (.string ⟨#[]⟩) = w8 at *
            refine hEn.mono ?_
            rintro e w9 ⟨rfl, rfl⟩
            rw [show endP (oi.drop 4) 2 = 2 by unfold endP; rw [if_neg (fun h => absurd h.1 (by decide))]]
            clear hw8 hS8 hEn f0 fr s1
            go_wp2_with (with_reducible refine stop_store 43 ?_)
            refine Stop.mk (wpList_store_row rfl 43 _ _ rfl w.heap.size zeroE.cells rfl rfl 43 zeroE.cells hR8.out (by kernel_rfl) rfl (by kernel_rfl) ?_)
            have hR2 : Blk (World.setRow w8 w.heap.size zeroE.cells) w.heap.size 43 zeroE.cells := setRow_heap _ _ _ _ _ _ hR8.out
            have hB2 : Below w.heap.size w (World.setRow w8 w.heap.size zeroE.cells) := below_setRow hB8.out (Nat.le_refl _) _
            generalize World.setRow w8 w.heap.size zeroE.cells = w2 at *
            go_wp2
            (try simp only [Exit.inBlock, Exit.then])
            refine bodyPost_ret (results_cell_tmp (ty := 43) rfl rfl (loadVar_blk hR2 Try.underlying43 rfl (by kernel_rfl))) rfl ?_
            rw [hz2.out]
            exact ⟨rfl, hB2⟩
          · have ht : takeP (oi.drop 4) 0 (N : Int) = ((oi.drop 4).take N, (oi.drop 4).drop N, 0) := takeP_ok _ N (by rw [List.length_drop]; have := hLh.out; omega)
            rw [ht] at hS7 s1 ⊢
            simp only at hS7 s1 ⊢
            have hnl : Hid (((oi.drop 4).take N).length ≤ 56) := by
              show _ ≤ _
              rw [List.length_take]
              omega
            have hz : Hid (decD bs = if nameP ((oi.drop 4).take N) = false ∨ (I : Int) < 1 ∨ encE ⟨(oi.drop 4).take N, (I : Int)⟩ ≠ bs then (zeroE, 3) else (⟨(oi.drop 4).take N, (I : Int)⟩, 0)) := by
              show _ = _
              rw [hz.out]
              simp [hN56]
            generalize (oi.drop 4).take N = nm at *
            generalize (oi.drop 4).drop N = rs at *
            have hS8 := Lib.hid (hS7.out.far (j := 0) (u := .string ⟨nm.toArray⟩) hgP.out.1 (by have := hgP.out.2.1; omega) (fun k hk => hgP.out.2.2 k (by rw [← h7b]; exact hk)) (by have := hgP.out.2.1; omega))
            have hP8 : Blk (w7.setCell ⟨P, 0, none⟩ (.string ⟨nm.toArray⟩)) P 43 (Ent.cells ⟨nm, (I : Int)⟩) := hP7.out.set_ 0 _
            have hEn := Lib.hid (REnd_calls _ g b7 _ 0 hS8.out.rd)
            have hR8 := Lib.hid hS8.out.rb
            have hB8 := Lib.hid hS8.out.below
            have hP8 := Lib.hid hP8
            clear ht hN56 hS7 hP7
            go_wp2_with fail
            have hEn := hEn.out
            generalize hw8 : w7.setCell ⟨P, 0, none⟩ (.string ⟨nm.toArray⟩) = w8 at *
            refine hEn.mono ?_
            rintro e w9 ⟨rfl, rfl⟩
            have hev := endP_ok rs
            generalize endP rs 0 = ev at *
            have c0 : w8.cell? ⟨P, 0, none⟩ = some (.string ⟨nm.toArray⟩) := hP8.out.cell 0
            have c1 : w8.cell? ⟨P, 1, none⟩ = some (.int .i64 (I : Int)) := hP8.out.cell 1
            clear hw8 hS8 hEn f0 fr s1
            have hNm := Name_calls w8 nm (by have := hnl.out; omega)
            have hIn := isInode_calls w8 (I : Int)
            rw [show (decide ((I : Int) ≤ 65535)) = true from decide_eq_true (by have := hI16.out; omega), Bool.and_true] at hIn
            cases hnb : nameP nm
            · rw [hnb] at hNm
              have hz2 : Hid (decD bs = (zeroE, 3)) := by show _ = _; rw [hz.out, if_pos (.inl hnb)]
              have hNm := Lib.hid hNm
              clear hnb hIn
              go_wp2_with fail
              refine hNm.out.mono ?_
              rintro e w9 ⟨rfl, rfl⟩
              clear hNm c0 c1
              go_wp2_with (with_reducible refine stop_store 43 ?_)
              refine Stop.mk (wpList_store_row rfl 43 _ _ rfl w.heap.size zeroE.cells rfl rfl 43 zeroE.cells hR8.out (by kernel_rfl) rfl (by kernel_rfl) ?_)
              have hR2 : Blk (World.setRow w8 w.heap.size zeroE.cells) w.heap.size 43 zeroE.cells := setRow_heap _ _ _ _ _ _ hR8.out
              have hB2 : Below w.heap.size w (World.setRow w8 w.heap.size zeroE.cells) := below_setRow hB8.out (Nat.le_refl _) _
              generalize World.setRow w8 w.heap.size zeroE.cells = w2 at *
              go_wp2
              (try simp only [Exit.inBlock, Exit.then])
              refine bodyPost_ret (results_cell_tmp (ty := 43) rfl rfl (loadVar_blk hR2 Try.underlying43 rfl (by kernel_rfl))) rfl ?_
              rw [hz2.out]
              exact ⟨rfl, hB2⟩
            · rw [hnb] at hNm
              by_cases hi1 : (1 : Int) ≤ (I : Int)
              · rw [decide_eq_true hi1] at hIn
                have hNm := Lib.hid hNm
                have hIn := Lib.hid hIn
                have hz : Hid (decD bs = if encE ⟨nm, (I : Int)⟩ ≠ bs then (zeroE, 3) else (⟨nm, (I : Int)⟩, 0)) := by
                  show _ = _
                  rw [hz.out]
                  have : ¬ ((I : Int) < 1) := by omega
                  simp [hnb, this]
                have hE := Lib.hid (EncodeE_calls w8 ⟨nm, (I : Int)⟩ (by have := hnl.out; show nm.length ≤ _; omega))
                clear hnb
                go_wp2_with fail
                refine hNm.out.mono ?_
                rintro e w9 ⟨rfl, rfl⟩
                go_wp2_with fail
                refine hIn.out.mono ?_
                rintro e w9 ⟨rfl, rfl⟩
                clear hNm hIn hi1
                go_wp2_with fail
                refine hE.out.mono ?_
                rintro e w9 ⟨re, rfl, hoe, hBe, _⟩
                have hoe := hoe
                have hx9 := (hx64.out.below ((hB8.out.trans (hBe.mono hB8.out.size))))
                have hQ := Equal_calls w9 re (.slice A 64 c) _ bs (Rd.of_own hoe) hx9
                have hR9 := Lib.hid (hR8.out.chg (Chg.of_below hBe) (S := fun _ => False) id)
                have hP9 := Lib.hid (hP8.out.chg (Chg.of_below hBe) (S := fun _ => False) id)
                have hB9 := Lib.hid (hB8.out.trans (hBe.mono hB8.out.size))
                by_cases hg : encE ⟨nm, (I : Int)⟩ = bs
                · have hgb : (encE ⟨nm, (I : Int)⟩ == bs) = true := by rw [hg]; exact beq_self_eq_true _
                  rw [hgb] at hQ
                  have hQ := Lib.hid hQ
                  have hz2 : Hid (decD bs = (⟨nm, (I : Int)⟩, 0)) := by show _ = _; rw [hz.out, if_neg (fun h => h hg)]
                  obtain ⟨Ae, ce, rfl⟩ := hoe.shape
                  clear hg hgb hoe hBe hx9 hE c0 c1 hR8 hP8 hB8
                  go_wp2_with fail
                  refine hQ.out.mono ?_
                  rintro e w10 ⟨rfl, rfl⟩
                  have c0 : w9.cell? ⟨P, 0, none⟩ = some (.string ⟨nm.toArray⟩) := hP9.out.cell 0
                  have c1 : w9.cell? ⟨P, 1, none⟩ = some (.int .i64 (I : Int)) := hP9.out.cell 1
                  go_wp2_with (with_reducible refine stop_store 43 ?_)
                  refine Stop.mk (wpList_store_row rfl 43 _ _ rfl w.heap.size (Ent.cells ⟨nm, (I : Int)⟩) rfl rfl 43 zeroE.cells hR9.out (by kernel_rfl) rfl (by kernel_rfl) ?_)
                  have hR2 : Blk (World.setRow w9 w.heap.size (Ent.cells ⟨nm, (I : Int)⟩)) w.heap.size 43 (Ent.cells ⟨nm, (I : Int)⟩) := setRow_heap _ _ _ _ _ _ hR9.out
                  have hB2 : Below w.heap.size w (World.setRow w9 w.heap.size (Ent.cells ⟨nm, (I : Int)⟩)) := below_setRow hB9.out (Nat.le_refl _) _
                  generalize World.setRow w9 w.heap.size (Ent.cells ⟨nm, (I : Int)⟩) = w2 at *
                  go_wp2
                  (try simp only [Exit.inBlock, Exit.then])
                  refine bodyPost_ret (results_cell_tmp (ty := 43) rfl rfl (loadVar_blk hR2 Try.underlying43 rfl (by kernel_rfl))) rfl ?_
                  rw [hz2.out]
                  exact ⟨rfl, hB2⟩
                · have hgb : (encE ⟨nm, (I : Int)⟩ == bs) = false := beq_eq_false_iff_ne.2 hg
                  rw [hgb] at hQ
                  have hQ := Lib.hid hQ
                  have hz2 : Hid (decD bs = (zeroE, 3)) := by show _ = _; rw [hz.out, if_pos hg]
                  obtain ⟨Ae, ce, rfl⟩ := hoe.shape
                  clear hg hgb hoe hBe hx9 hE c0 c1 hR8 hP8 hB8
                  go_wp2_with fail
                  refine hQ.out.mono ?_
                  rintro e w10 ⟨rfl, rfl⟩
                  go_wp2_with (with_reducible refine stop_store 43 ?_)
                  refine Stop.mk (wpList_store_row rfl 43 _ _ rfl w.heap.size zeroE.cells rfl rfl 43 zeroE.cells hR9.out (by kernel_rfl) rfl (by kernel_rfl) ?_)
                  have hR2 : Blk (World.setRow w9 w.heap.size zeroE.cells) w.heap.size 43 zeroE.cells := setRow_heap _ _ _ _ _ _ hR9.out
                  have hB2 : Below w.heap.size w (World.setRow w9 w.heap.size zeroE.cells) := below_setRow hB9.out (Nat.le_refl _) _
                  generalize World.setRow w9 w.heap.size zeroE.cells = w2 at *
                  go_wp2
                  (try simp only [Exit.inBlock, Exit.then])
                  refine bodyPost_ret (results_cell_tmp (ty := 43) rfl rfl (loadVar_blk hR2 Try.underlying43 rfl (by kernel_rfl))) rfl ?_
                  rw [hz2.out]
                  exact ⟨rfl, hB2⟩
              · rw [decide_eq_false hi1] at hIn
                have hz2 : Hid (decD bs = (zeroE, 3)) := by show _ = _; rw [hz.out, if_pos (.inr (.inl (by omega)))]
                have hNm := Lib.hid hNm
                have hIn := Lib.hid hIn
                clear hnb
                go_wp2_with fail
                refine hNm.out.mono ?_
                rintro e w9 ⟨rfl, rfl⟩
                go_wp2_with fail
                refine hIn.out.mono ?_
                rintro e w9 ⟨rfl, rfl⟩
                clear hNm hIn c0 c1 hi1
                go_wp2_with (with_reducible refine stop_store 43 ?_)
                refine Stop.mk (wpList_store_row rfl 43 _ _ rfl w.heap.size zeroE.cells rfl rfl 43 zeroE.cells hR8.out (by kernel_rfl) rfl (by kernel_rfl) ?_)
                have hR2 : Blk (World.setRow w8 w.heap.size zeroE.cells) w.heap.size 43 zeroE.cells := setRow_heap _ _ _ _ _ _ hR8.out
                have hB2 : Below w.heap.size w (World.setRow w8 w.heap.size zeroE.cells) := below_setRow hB8.out (Nat.le_refl _) _
                generalize World.setRow w8 w.heap.size zeroE.cells = w2 at *
                go_wp2
                (try simp only [Exit.inBlock, Exit.then])
                refine bodyPost_ret (results_cell_tmp (ty := 43) rfl rfl (loadVar_blk hR2 Try.underlying43 rfl (by kernel_rfl))) rfl ?_
                rw [hz2.out]
                exact ⟨rfl, hB2⟩
        · have hz2 : Hid (decD bs = (zeroE, oe)) := by show _ = _; rw [hz.out, if_pos he]
          have heb : (oe != 0) = true := by simpa using he
          obtain ⟨A1, c1, rfl⟩ := ho1.shape
          have hR1h := Lib.hid hR1
          have hB1h := Lib.hid hB1'
          clear he
          go_wp2_with (with_reducible refine stop_store 43 ?_)
          refine Stop.mk (wpList_store_row rfl 43 _ _ rfl w.heap.size zeroE.cells rfl rfl 43 zeroE.cells hR1h.out (by kernel_rfl) rfl (by kernel_rfl) ?_)
          have hR2 : Blk (World.setRow w1 w.heap.size zeroE.cells) w.heap.size 43 zeroE.cells := setRow_heap _ _ _ _ _ _ hR1h.out
          have hB2 : Below w.heap.size w (World.setRow w1 w.heap.size zeroE.cells) := below_setRow hB1h.out (Nat.le_refl _) _
          generalize World.setRow w1 w.heap.size zeroE.cells = w2 at *
          go_wp2
          (try simp only [Exit.inBlock, Exit.then])
          refine bodyPost_ret (results_cell_tmp (ty := 43) rfl rfl (loadVar_blk hR2 Try.underlying43 rfl (by kernel_rfl))) rfl ?_
          rw [hz2.out]
          exact ⟨rfl, hB2⟩
end Go.Proofs.Ytoloogpglnonaaa
