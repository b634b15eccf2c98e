/- The document's slots: Decode. -/
import Derived.Test.YtoloogpglnonaaaDf
namespace Go.Proofs.Ytoloogpglnonaaa
open Go.RowKit
structure DR (w0 W : World) (g R : Nat) (b : Value) (oi : List UInt8) (p : Nat) (err : Int) : Prop where
  rd : RRd W g b oi p err
  rb : Blk W R 46 zeroE.cells
  gR : g ≠ R
  below : Below w0.heap.size w0 W
  gw : w0.heap.size ≤ g
  rw : w0.heap.size ≤ R
  bl : ∀ k, b.ownBlock = some k → k < W.heap.size
theorem DR.chg {w0 W W' : World} {g R : Nat} {b : Value} {oi : List UInt8} {p p' : Nat} {err err' : Int} (h : DR w0 W g R b oi p err) (h1 : RRd W' g b oi p' err') (h2 : Chg (fun k => k = g) W W') : DR w0 W' g R b oi p' err' :=
  ⟨h1, h.rb.chg h2 (fun e => h.gR e.symm), h.gR, h.below.trans (h2.below h.below.size (fun k hk => by rw [hk]; exact h.gw)), h.gw, h.rw, fun k hk => Nat.lt_of_lt_of_le (h.bl k hk) h2.size⟩
theorem DR.num {w0 W W' : World} {g R p : Nat} {b : Value} {oi : List UInt8} {e : Ending} (k m : Nat) (h : DR w0 W g R b oi p 0) (hp : oi.drop p = oi.drop k) (hm : k + m ≤ oi.length) (kk : RNumOut W g b oi (takeP (oi.drop p) 0 (m : Int)) e W') :
    e = .returned (.int .i64 (numA oi k m : Nat)) ∧ ∃ p', DR w0 W' g R b oi p' 0 ∧ oi.drop p' = oi.drop (k + m) := by
  rw [hp, takeP_ok _ m (by rw [List.length_drop]; omega)] at kk
  obtain ⟨rfl, p', h1, h2, h3⟩ := kk
  simp only at h2
  rw [List.drop_drop] at h2
  exact ⟨rfl, p', h.chg h1 h3, h2⟩
theorem DR.stay {w0 W W' : World} {g R p : Nat} {b : Value} {oi : List UInt8} {err : Int} (h : DR w0 W g R b oi p err) (hb : Below W.heap.size W W') : DR w0 W' g R b oi p err :=
  ⟨h.rd.below hb, h.rb.chg (Chg.of_below hb) (S := fun _ => False) id, h.gR, h.below.trans (hb.mono h.below.size), h.gw, h.rw, fun k hk => Nat.lt_of_lt_of_le (h.bl k hk) hb.size⟩
theorem DR.far {w0 W : World} {g R P j p : Nat} {b u : Value} {oi : List UInt8} {err : Int} (h : DR w0 W g R b oi p err) (h1 : g ≠ P) (h2 : R ≠ P) (h3 : ∀ k, b.ownBlock = some k → k ≠ P) (h4 : w0.heap.size ≤ P) : DR w0 (W.setCell ⟨P, j, none⟩ u) g R b oi p err :=
  ⟨⟨h.rd.blk.far h1 _, h.rd.rd.far (fun e => h3 _ e rfl) _, h.rd.ne, h.rd.le⟩, h.rb.far h2 _, h.gR, h.below.setCell (p := ⟨P, j, none⟩) h4 _, h.gw, h.rw, fun k hk => Nat.lt_of_lt_of_le (h.bl k hk) (((Below.refl 0 W).setCell (p := ⟨P, j, none⟩) (Nat.zero_le _) u).size)⟩
set_option maxRecDepth 10000 in
set_option maxHeartbeats 8000000 in
theorem RDecodeE_calls (w : World) (x : Value) (bs : List UInt8) (hx : Rd w x (bvs bs)) (hl : bs.length ≤ 100000000) : Calls Try.prog 20 #[x] w (DecE w (decD bs)) := by
  have hx0 := hx
  obtain ⟨A, c, rfl⟩ := hx.shape8
  by_cases h1 : bs.length < 64
  · have e : decD bs = (zeroE, 2) := by unfold decD; rw [if_pos h1]
    rw [e]
    clear e
    go_enter Try.func20, Try.ntmps20
    go_wp2
    (try simp only [Exit.inBlock, Exit.then])
    refine bodyPost_ret (results_cell_tmp (ty := 46) rfl rfl (loadVar_blk (Blk.new _ _ _) Try.underlying46 rfl (by kernel_rfl))) rfl ?_
    exact ⟨rfl, (Below.refl _ _).alloc (Nat.le_refl _) _⟩
  by_cases h2 : 64 < bs.length
  · have e : decD bs = (zeroE, 5) := by unfold decD; rw [if_neg h1, if_pos h2]
    rw [e]
    clear e
    go_enter Try.func20, Try.ntmps20
    go_wp2
    (try simp only [Exit.inBlock, Exit.then])
    refine bodyPost_ret (results_cell_tmp (ty := 46) rfl rfl (loadVar_blk (Blk.new _ _ _) Try.underlying46 rfl (by kernel_rfl))) rfl ?_
    exact ⟨rfl, (Below.refl _ _).alloc (Nat.le_refl _) _⟩
  have hlen : bs.length = 64 := by omega
  have hz : Hid (decD bs = if bs = List.replicate 64 0 then (zeroE, 0) else if (openP bs).2 ≠ 0 then (zeroE, (openP bs).2) else
      if 56 < numA (openP bs).1 0 1 ∨ nameP (rdE (openP bs).1).name = false ∨ (rdE (openP bs).1).ino < 1 ∨ encE (rdE (openP bs).1) ≠ bs then (zeroE, 3) else (rdE (openP bs).1, 0)) := by
    show _ = _
    unfold decD
    rw [if_neg h1, if_neg h2]
  have hopl : Hid ((openP bs).2 = 0 → (openP bs).1.length = 60) := by
    intro h0
    unfold openP at h0 ⊢
    split at h0
    · simp at h0
    · split at h0
      · rename_i ha hb
        rw [if_neg ha, if_pos hb]
        simp only [List.length_take]
        omega
      · simp at h0
  obtain ⟨i0, hi, hz0, hz1, hz2⟩ := info_parts Try.info_u8
  obtain ⟨Z, hZ⟩ : ∃ Z, Hid (Z = (List.replicate 64 (Value.int .u8 0)).toArray) := ⟨_, rfl⟩
  obtain ⟨zl, hzl⟩ : ∃ zl, Hid (zl = List.replicate 64 (0 : UInt8)) := ⟨_, rfl⟩
  have hmk : Hid (∀ W : World, Sem.run Try.prog (Instr.makeSlice 30 (.int .i64 64) (.int .i64 64)) W = .ok (.slice (some ⟨W.heap.size, 0, none⟩) 64 64) (W.alloc (.cells Z 5))) := fun W => by
    rw [hZ.out]
    exact run_mkr (P := Try.prog) 30 5 i0 (.int .u8 0) Try.underlying30 hi hz0 rfl hz1 64 (by rw [hz2]; omega) (by omega) W
  have hR0 : Blk (w.alloc (.cells zeroE.cells 46)) w.heap.size 46 zeroE.cells := Blk.new _ _ _
  have hB0 : Below w.heap.size w (w.alloc (.cells zeroE.cells 46)) := (Below.refl _ _).alloc (Nat.le_refl _) _
  obtain ⟨w0, hw0⟩ : ∃ w0, w0 = w.alloc (.cells zeroE.cells 46) := ⟨_, rfl⟩
  rw [← hw0] at hR0 hB0
  have hR0 := Lib.hid hR0
  have hB0 := Lib.hid hB0
  have hx64 : Hid (Rd w (.slice A 64 c) (bvs bs)) := by show Rd _ _ _; rw [← hlen]; exact hx0
  unfold zeroE Ent.cells at hw0
  simp only at hw0
  clear hi hz0 hz1 hz2 h1 h2 hx0 hx
  rw [hlen] at *
  clear hlen
  go_enter Try.func20, Try.ntmps20
  go_wp2_with fail
  rw [← hw0]
  clear hw0
  have bz : Below w0.heap.size w0 ((w0.alloc (.cells Z 5)).drew) := ((Below.refl _ _).alloc (Nat.le_refl _) _).drew
  have qz : Rd ((w0.alloc (.cells Z 5)).drew) (.slice (some ⟨w0.heap.size, 0, none⟩) 64 64) (bvs zl) := by
    rw [hZ.out, hzl.out]
    exact rd_make0 w0.drew
  have hmk1 := hmk.out w0.drew
  refine wp_mixs (fun W => Below w0.heap.size w0 W) [2] (by kernel_rfl) (by kernel_rfl) (by kernel_rfl) (by decide) ((Below.refl _ _).drew) ?_
  (first | refine mixsq rfl rfl 0 (by decide +kernel) ?_ (fun w' hw' => Or.inl ?_) (fun K hK => ?_) | refine mixsq rfl rfl 1 (by decide +kernel) ?_ (fun w' hw' => Or.inl ?_) (fun K hK => ?_) | refine mixsq rfl rfl 2 (by decide +kernel) ?_ (fun w' hw' => Or.inl ?_) (fun K hK => ?_) | refine mixsq rfl rfl 3 (by decide +kernel) ?_ (fun w' hw' => Or.inl ?_) (fun K hK => ?_) | refine mixsq rfl rfl 4 (by decide +kernel) ?_ (fun w' hw' => Or.inl ?_) (fun K hK => ?_) | refine mixsq rfl rfl 5 (by decide +kernel) ?_ (fun w' hw' => Or.inl ?_) (fun K hK => ?_) | refine mixsq rfl rfl 6 (by decide +kernel) ?_ (fun w' hw' => Or.inl ?_) (fun K hK => ?_)); rotate_left; (focus (go_simp; rfl)); go_simp; refine hK _ ?_; clear hK K
  (first | refine mixsq rfl rfl 0 (by decide +kernel) ?_ (fun w' hw' => Or.inl ?_) (fun K hK => ?_) | refine mixsq rfl rfl 1 (by decide +kernel) ?_ (fun w' hw' => Or.inl ?_) (fun K hK => ?_) | refine mixsq rfl rfl 2 (by decide +kernel) ?_ (fun w' hw' => Or.inl ?_) (fun K hK => ?_) | refine mixsq rfl rfl 3 (by decide +kernel) ?_ (fun w' hw' => Or.inl ?_) (fun K hK => ?_) | refine mixsq rfl rfl 4 (by decide +kernel) ?_ (fun w' hw' => Or.inl ?_) (fun K hK => ?_) | refine mixsq rfl rfl 5 (by decide +kernel) ?_ (fun w' hw' => Or.inl ?_) (fun K hK => ?_) | refine mixsq rfl rfl 6 (by decide +kernel) ?_ (fun w' hw' => Or.inl ?_) (fun K hK => ?_)); rotate_left; (focus (have hb : Below w0.heap.size w0 w' := hw'; have s1 := run_str (P := Try.prog) w' 30 9 5 _ _ Try.underlying30 Try.underlying5 Try.underlying9 (hx64.out.below (hB0.out.trans (hb.mono hB0.out.size))); unfold str at s1; go_simp; rfl)); go_simp; refine hK _ ?_; clear hK K
  refine mixsl rfl rfl (fun K hK => ?_)
  go_simp
  refine hK (fun W => Below w0.heap.size w0 W ∧ Rd W (.slice (some ⟨w0.heap.size, 0, none⟩) 64 64) (bvs zl)) _ _ (fun _ => ⟨⟨bz, qz⟩, fun _ => bz⟩) ?_
  clear hK K
  (refine mixsq rfl rfl 1 (by decide +kernel) ?_ (fun w' hw' => Or.inl ?_) (fun K hK => ?_)); rotate_left; (focus (have hb : Below w0.heap.size w0 w' ∧ Rd w' (.slice (some ⟨w0.heap.size, 0, none⟩) 64 64) (bvs zl) := hw'; have s1 := run_str (P := Try.prog) w' 30 9 5 _ _ Try.underlying30 Try.underlying5 Try.underlying9 (hb.2); unfold str at s1; go_simp; rfl)); go_simp; refine hK _ ?_; clear hK K
  (first | refine mixsq rfl rfl 0 (by decide +kernel) ?_ (fun w' hw' => Or.inl ?_) (fun K hK => ?_) | refine mixsq rfl rfl 1 (by decide +kernel) ?_ (fun w' hw' => Or.inl ?_) (fun K hK => ?_) | refine mixsq rfl rfl 2 (by decide +kernel) ?_ (fun w' hw' => Or.inl ?_) (fun K hK => ?_) | refine mixsq rfl rfl 3 (by decide +kernel) ?_ (fun w' hw' => Or.inl ?_) (fun K hK => ?_) | refine mixsq rfl rfl 4 (by decide +kernel) ?_ (fun w' hw' => Or.inl ?_) (fun K hK => ?_) | refine mixsq rfl rfl 5 (by decide +kernel) ?_ (fun w' hw' => Or.inl ?_) (fun K hK => ?_) | refine mixsq rfl rfl 6 (by decide +kernel) ?_ (fun w' hw' => Or.inl ?_) (fun K hK => ?_)); rotate_left; (focus (go_simp; rfl)); go_simp; refine hK _ ?_; clear hK K
  refine mixs_nil ?_
  have hR1 := Lib.hid (hR0.out.chg (Chg.of_below bz) (S := fun _ => False) id)
  have hB1 := Lib.hid (hB0.out.trans (bz.mono hB0.out.size))
  generalize (w0.alloc (.cells Z 5)).drew = wz at *
  clear qz hmk
  rw [← hzl.out] at hz
  by_cases hq : bs = zl
  · have hz2 : Hid (decD bs = (zeroE, 0)) := by show _ = _; rw [hz.out, if_pos hq]
    clear hopl hz bz hR0 hB0
    subst hq
    rw [beq_self_eq_true]
    go_wp2_with (with_reducible refine stop_store 46 ?_)
    refine Stop.mk (wpList_store_row rfl 46 _ _ rfl w.heap.size zeroE.cells rfl rfl 46 zeroE.cells hR1.out (by kernel_rfl) rfl (by kernel_rfl) ?_)
    have hR2 : Blk (World.setRow wz w.heap.size zeroE.cells) w.heap.size 46 zeroE.cells := setRow_heap _ _ _ _ _ _ hR1.out
    have hB2 : Below w.heap.size w (World.setRow wz w.heap.size zeroE.cells) := below_setRow hB1.out (Nat.le_refl _) _
    generalize World.setRow wz w.heap.size zeroE.cells = w2 at *
    go_wp2
    (try simp only [Exit.inBlock, Exit.then])
    refine bodyPost_ret (results_cell_tmp (ty := 46) rfl rfl (loadVar_blk hR2 Try.underlying46 rfl (by kernel_rfl))) rfl ?_
    rw [hz2.out]
    exact ⟨rfl, hB2⟩
  · have hqb : (bs == zl) = false := beq_eq_false_iff_ne.2 hq
    have hqb2 : ((⟨bs.toArray⟩ : ByteArray) == ⟨zl.toArray⟩) = false := by
      have := bytes_ne hq
      simpa [bne] using this
    have hz : Hid (decD bs = if (openP bs).2 ≠ 0 then (zeroE, (openP bs).2) else
        if 56 < numA (openP bs).1 0 1 ∨ nameP (rdE (openP bs).1).name = false ∨ (rdE (openP bs).1).ino < 1 ∨ encE (rdE (openP bs).1) ≠ bs then (zeroE, 3) else (rdE (openP bs).1, 0)) := by
      show _ = _
      rw [hz.out, if_neg hq]
    have HO := ROpen_calls wz _ bs (by have := hx64.out.below hB1.out; exact this) hl
    obtain ⟨op, hop⟩ : ∃ op, Hid (openP bs = op) := ⟨_, rfl⟩
    rw [hop.out] at HO hz hopl
    have HO := Lib.hid HO
    have hB0 := hB1
    have hR0 := hR1
    rw [hqb]
    clear hq hqb hqb2 hB1 hR1 bz
    go_wp2_with fail
    refine HO.out.mono ?_
    rintro e w1 ⟨r1, rfl, ho1, hB1, hf1⟩
    obtain ⟨oi, oe⟩ := op
    simp only at ho1 hopl hz hf1 ⊢
    have hB1' := hB0.out.trans (hB1.mono hB0.out.size)
    have hR1 := hR0.out.chg (Chg.of_below hB1) (S := fun _ => False) id
    by_cases he : oe = 0
    · subst he
      have hL := hopl.out rfl
      have hz : Hid (decD bs = if 56 < numA oi 0 1 ∨ nameP (rdE oi).name = false ∨ (rdE oi).ino < 1 ∨ encE (rdE oi) ≠ bs then (zeroE, 3) else (rdE oi, 0)) := by
        show _ = _
        rw [hz.out, if_neg (by simp)]
      have hLh := Lib.hid hL
      have ho1h := Lib.hid ho1
      obtain ⟨A1, c1, rfl⟩ := ho1.shape
      have hRl := hR1.lt
      have hlt1 := fun k hk => ho1.lt k hk
      obtain ⟨w2, hw2⟩ : ∃ w2, w2 = w1.alloc (.cells #[.slice A1 oi.length c1, .int .i64 0, .int .i64 0] 87) := ⟨_, rfl⟩
      have hS : DR w w2 w1.heap.size w.heap.size (.slice A1 oi.length c1) oi 0 0 := by
        rw [hw2]
        exact ⟨⟨Blk.new _ _ _, (Rd.of_own ho1).alloc _, fun _ e => by have := hlt1 _ e; omega, Nat.zero_le _⟩, hR1.alloc _, by omega, hB1'.alloc hB1'.size _, hB1'.size, Nat.le_refl _, fun k hk => by have := hlt1 k hk; simp; omega⟩
      have hS := Lib.hid hS
      rw [hL] at hw2 hS ⊢
      generalize hgq : w1.heap.size = g at *
      clear hL hopl ho1 hR1 hB1' hf1 hRl hlt1 hB1
      go_wp2_with fail
      rw [← hw2]
      clear hw2 hgq
      have hU := Lib.hid (RRNumber_calls w2 g _ oi 0 0 1 hS.out.rd (by have := hLh.out; omega) (by omega))
      refine hU.out.mono ?_
      intro e w3 kk
      obtain ⟨rfl, p3, hS3, hp3⟩ := hS.out.num 0 1 rfl (by have := hLh.out; omega) kk
      have hS3 := Lib.hid hS3
      have hp3 := Lib.hid hp3
      clear hU kk hS
      have hU := Lib.hid (RRNumber_calls w3 g _ oi p3 0 1 hS3.out.rd (by have := hLh.out; omega) (by omega))
      go_wp2_with fail
      refine hU.out.mono ?_
      intro e w4 kk
      obtain ⟨rfl, p4, hS4, hp4⟩ := hS3.out.num 1 1 hp3.out (by have := hLh.out; omega) kk
      have hp4 := Lib.hid hp4
      have hPb : Blk (w4.alloc (.cells #[.string ⟨#[]⟩, .int .i64 0] 46)) w4.heap.size 46 #[.string ⟨#[]⟩, .int .i64 0] := Blk.new _ _ _
      have hBp : Below w4.heap.size w4 (w4.alloc (.cells #[.string ⟨#[]⟩, .int .i64 0] 46)) := (Below.refl _ _).alloc (Nat.le_refl _) _
      have hgP : Hid (g ≠ w4.heap.size ∧ w.heap.size < w4.heap.size ∧ ∀ k, (Value.slice A1 60 c1).ownBlock = some k → k ≠ w4.heap.size) := ⟨by have := hS4.rd.blk.lt; omega, hS4.rb.lt, fun k hk => by have := hS4.bl k hk; omega⟩
      obtain ⟨w5, hw5⟩ : ∃ w5, w5 = w4.alloc (.cells #[.string ⟨#[]⟩, .int .i64 0] 46) := ⟨_, rfl⟩
      rw [← hw5] at hPb hBp
      have hS5 := Lib.hid (hS4.stay hBp)
      generalize hPq : w4.heap.size = P at *
      clear hU kk hS3 hp3 hS4 hBp
      have hU := Lib.hid (RRNumber_calls w5 g _ oi p4 0 2 hS5.out.rd (by have := hLh.out; omega) (by omega))
      go_wp2_with fail
      rw [← hw5]
      clear hw5 hPq
      refine hU.out.mono ?_
      intro e w6 kk
      have hPc : Chg (fun k => k = g) w5 w6 := by
        obtain ⟨_, _, _, _, h⟩ := kk
        exact h
      obtain ⟨rfl, p6, hS6, hp6⟩ := hS5.out.num 2 2 hp4.out (by have := hLh.out; omega) kk
      have hP6 := hPb.chg hPc (fun e => hgP.out.1 e.symm)
      obtain ⟨N, hN⟩ : ∃ N, Hid (N = numA oi 0 1) := ⟨_, rfl⟩
      obtain ⟨I, hI⟩ : ∃ I, Hid (I = numA oi 2 2) := ⟨_, rfl⟩
      have hN8 : Hid (N ≤ 255) := by
        show _ ≤ _
        have h1 := numP_lt ((oi.drop 0).take 1)
        have h2 : (256 : Nat) ^ ((oi.drop 0).take 1).length ≤ 256 := Nat.le_trans (Nat.pow_le_pow_right (by omega) (show ((oi.drop 0).take 1).length ≤ 1 by rw [List.length_take]; omega)) (by decide)
        rw [hN.out]
        unfold numA
        omega
      have hI16 : Hid (I ≤ 65535) := by rw [hI.out]; exact numA_lt2 oi 2
      rw [← hN.out, ← hI.out]
      have hrd : Hid (rdE oi = ⟨(oi.drop 4).take N, (I : Int)⟩) := by
        show _ = _
        unfold rdE
        rw [hN.out, hI.out]
      rw [hrd.out, ← hN.out] at hz
      have f1 : w6.cell? ⟨P, 1, none⟩ = some (.int .i64 0) := hP6.cell 1
      have fr1 := hP6.frozen 1
      have hS7 := Lib.hid (hS6.far (j := 1) (u := .int .i64 (I : Int)) hgP.out.1 (by have := hgP.out.2.1; omega) hgP.out.2.2 (by have := hgP.out.2.1; omega))
      have hP7 : Hid (Blk (w6.setCell ⟨P, 1, none⟩ (.int .i64 (I : Int))) P 46 #[.string ⟨#[]⟩, .int .i64 (I : Int)]) := hP6.set_ 1 _
      have hU := RRFixed_calls (w6.setCell ⟨P, 1, none⟩ (.int .i64 (I : Int))) g _ oi p6 0 56 hS7.out.rd (by have := hLh.out; omega) (by omega) (by omega)
      have ht : takeP (oi.drop p6) 0 56 = (oi.drop 4, [], 0) := by
        have h56 : (oi.drop 4).length = 56 := by rw [List.length_drop]; have := hLh.out; omega
        have e1 : (oi.drop 4).take 56 = oi.drop 4 := List.take_of_length_le (by omega)
        have e2 : (oi.drop 4).drop 56 = [] := List.drop_eq_nil_of_le (by omega)
        have e3 := takeP_ok (oi.drop 4) 56 (by omega)
        rw [e1, e2] at e3
        rw [hp6]
        exact e3
      rw [ht] at hU
      have hU := Lib.hid hU
      clear hS6 hP6 hPc kk hS5 hPb
      go_wp2_with fail
      have hU := hU.out
      generalize hw7 : w6.setCell ⟨P, 1, none⟩ (.int .i64 (I : Int)) = w7 at *
      refine hU.mono ?_
      rintro e w8 ⟨out, p8, rfl, hout, h8r, _, h8c, _⟩
      have hR8 := Lib.hid (hS7.out.rb.chg h8c (fun e => hS7.out.gR e.symm))
      have hB8 := Lib.hid (hS7.out.below.trans (h8c.below hS7.out.below.size (fun k hk => by rw [hk]; exact hS7.out.gw)))
      have hP8 := Lib.hid (hP7.out.chg h8c (fun e => hgP.out.1 e.symm))
      obtain ⟨Ao, co, rfl⟩ := hout.shape
      have h56 : (oi.drop 4).length = 56 := by rw [List.length_drop]; have := hLh.out; omega
      have hrdo := Rd.of_own hout
      rw [h56] at hrdo ⊢
      have hco : 56 ≤ co := by
        obtain ⟨A', c', e, h, _⟩ := hrdo
        injection e with _ _ e3
        rw [bvs_length, h56] at h
        omega
      have hrdo := Lib.hid hrdo
      clear hw7 hU hS7 hP7 f1 fr1 hout h8r h8c ht
      by_cases hN56 : 56 < N
      · have hz2 : Hid (decD bs = (zeroE, 3)) := by show _ = _; rw [hz.out, if_pos (.inl hN56)]
        clear hz
        go_wp2_with (with_reducible refine stop_store 46 ?_)
        refine Stop.mk (wpList_store_row rfl 46 _ _ rfl w.heap.size zeroE.cells rfl rfl 46 zeroE.cells hR8.out (by kernel_rfl) rfl (by kernel_rfl) ?_)
        have hR2 : Blk (World.setRow w8 w.heap.size zeroE.cells) w.heap.size 46 zeroE.cells := setRow_heap _ _ _ _ _ _ hR8.out
        have hB2 : Below w.heap.size w (World.setRow w8 w.heap.size zeroE.cells) := below_setRow hB8.out (Nat.le_refl _) _
        generalize World.setRow w8 w.heap.size zeroE.cells = w2 at *
        go_wp2
        (try simp only [Exit.inBlock, Exit.then])
        refine bodyPost_ret (results_cell_tmp (ty := 46) rfl rfl (loadVar_blk hR2 Try.underlying46 rfl (by kernel_rfl))) rfl ?_
        rw [hz2.out]
        exact ⟨rfl, hB2⟩
      · have hz : Hid (decD bs = if nameP ((oi.drop 4).take N) = false ∨ (I : Int) < 1 ∨ encE ⟨(oi.drop 4).take N, (I : Int)⟩ ≠ bs then (zeroE, 3) else (⟨(oi.drop 4).take N, (I : Int)⟩, 0)) := by
          show _ = _
          rw [hz.out]
          simp [hN56]
        have hnl : Hid (((oi.drop 4).take N).length ≤ 56) := by show _ ≤ _; rw [List.length_take]; omega
        have hrdn := rd_takec hrdo.out (n := N) (by rw [h56]; omega)
        have s1 := run_str (P := Try.prog) w8 30 9 5 _ _ Try.underlying30 Try.underlying5 Try.underlying9 hrdn
        unfold str at s1
        generalize (oi.drop 4).take N = nm at *
        have f0 : w8.cell? ⟨P, 0, none⟩ = some (.string ⟨#[]⟩) := hP8.out.cell 0
        have fr0 := hP8.out.frozen 0
        have hP9 : Hid (Blk (w8.setCell ⟨P, 0, none⟩ (.string ⟨nm.toArray⟩)) P 46 (Ent.cells ⟨nm, (I : Int)⟩)) := hP8.out.set_ 0 _
        have hR9 : Hid (Blk (w8.setCell ⟨P, 0, none⟩ (.string ⟨nm.toArray⟩)) w.heap.size 46 zeroE.cells) := hR8.out.far (p := ⟨P, 0, none⟩) (by have := hgP.out.2.1; show w.heap.size ≠ P; omega) _
        have hB9 : Hid (Below w.heap.size w (w8.setCell ⟨P, 0, none⟩ (.string ⟨nm.toArray⟩))) := hB8.out.setCell (p := ⟨P, 0, none⟩) (by have := hgP.out.2.1; show w.heap.size ≤ P; omega) _
        clear hrdn hrdo hR8 hB8 hP8
        go_wp2_with fail
        generalize hw9 : w8.setCell ⟨P, 0, none⟩ (.string ⟨nm.toArray⟩) = w9 at *
        have c0 : w9.cell? ⟨P, 0, none⟩ = some (.string ⟨nm.toArray⟩) := hP9.out.cell 0
        have c1 : w9.cell? ⟨P, 1, none⟩ = some (.int .i64 (I : Int)) := hP9.out.cell 1
        have hPl := hP9.out.lt
        have hC : Hid (∀ W, Below w9.heap.size w9 W → W.cell? ⟨P, 0, none⟩ = some (.string ⟨nm.toArray⟩) ∧ W.cell? ⟨P, 1, none⟩ = some (.int .i64 (I : Int))) := fun W hW => ⟨(hW.cell (p := ⟨P, 0, none⟩) hPl).trans c0, (hW.cell (p := ⟨P, 1, none⟩) hPl).trans c1⟩
        have hCx : Hid (∀ W, Below w9.heap.size w9 W → Rd W (.slice A 64 c) (bvs bs)) := fun W hW => hx64.out.below (hB9.out.trans (hW.mono hB9.out.size))
        have hld : Hid (∀ W, Below w9.heap.size w9 W → (Instr.loadAt 46 (.pointer (some ⟨P, 0, none⟩))).run Try.prog W = .ok (.agg (Ent.cells ⟨nm, (I : Int)⟩)) W) := fun W hW =>
          run_loadAt_cells (P := Try.prog) W ⟨P, 0, none⟩ 46 [.string ⟨nm.toArray⟩, .int .i64 (I : Int)] _ (fun j u hu => by
            rw [addr_add_at, Nat.zero_add]
            match j, hu with
            | 0, hu => cases hu; exact (hC.out W hW).1
            | 1, hu => cases hu; exact (hC.out W hW).2
            | j + 2, hu => simp at hu) Try.underlying46 rfl (by kernel_rfl)
        have bd : Below w9.heap.size w9 w9.drew := (Below.refl _ _).drew
        clear hw9 f0 fr0 s1 c0 c1 hPl
        cases hnb : nameP nm
        · have hz2 : Hid (decD bs = (zeroE, 3)) := by show _ = _; rw [hz.out, if_pos (.inl hnb)]
          have hNm := RName_calls w9.drew nm (by have := hnl.out; omega)
          rw [hnb] at hNm
          clear hnb hz
          refine wp_mixs (fun W => Below w9.heap.size w9 W) [2, 11] (by kernel_rfl) (by kernel_rfl) (by kernel_rfl) (by decide) bd ?_
          iterate 2 ((first | refine mixsq rfl rfl 0 (by decide +kernel) ?_ (fun w' hw' => Or.inl ?_) (fun K hK => ?_) | refine mixsq rfl rfl 1 (by decide +kernel) ?_ (fun w' hw' => Or.inl ?_) (fun K hK => ?_) | refine mixsq rfl rfl 2 (by decide +kernel) ?_ (fun w' hw' => Or.inl ?_) (fun K hK => ?_) | refine mixsq rfl rfl 3 (by decide +kernel) ?_ (fun w' hw' => Or.inl ?_) (fun K hK => ?_) | refine mixsq rfl rfl 4 (by decide +kernel) ?_ (fun w' hw' => Or.inl ?_) (fun K hK => ?_) | refine mixsq rfl rfl 5 (by decide +kernel) ?_ (fun w' hw' => Or.inl ?_) (fun K hK => ?_) | refine mixsq rfl rfl 6 (by decide +kernel) ?_ (fun w' hw' => Or.inl ?_) (fun K hK => ?_)); rotate_left; (focus (have hb : Below w9.heap.size w9 w' := hw'; have k1 := (hC.out w' hb).1; have k2 := (hC.out w' hb).2; go_simp; rfl)); go_simp; refine hK _ ?_; clear hK K)
          refine mixsl rfl rfl (fun K hK => ?_)
          go_simp
          refine hNm.mono ?_
          rintro e w10 ⟨rfl, rfl⟩
          refine hK (fun W => Below w9.heap.size w9 W) _ _ (fun _ => ⟨bd, fun _ => bd⟩) ?_
          clear hK K
          iterate 2 ((first | refine mixsq rfl rfl 0 (by decide +kernel) ?_ (fun w' hw' => Or.inl ?_) (fun K hK => ?_) | refine mixsq rfl rfl 1 (by decide +kernel) ?_ (fun w' hw' => Or.inl ?_) (fun K hK => ?_) | refine mixsq rfl rfl 2 (by decide +kernel) ?_ (fun w' hw' => Or.inl ?_) (fun K hK => ?_) | refine mixsq rfl rfl 3 (by decide +kernel) ?_ (fun w' hw' => Or.inl ?_) (fun K hK => ?_) | refine mixsq rfl rfl 4 (by decide +kernel) ?_ (fun w' hw' => Or.inl ?_) (fun K hK => ?_) | refine mixsq rfl rfl 5 (by decide +kernel) ?_ (fun w' hw' => Or.inl ?_) (fun K hK => ?_) | refine mixsq rfl rfl 6 (by decide +kernel) ?_ (fun w' hw' => Or.inl ?_) (fun K hK => ?_)); rotate_left; (focus (go_simp; rfl)); go_simp; refine hK _ ?_; clear hK K)
          iterate 3 (refine mixsq_no rfl (by first | rfl | kernel_rfl) (fun K hK => ?_); go_simp; refine hK _ ?_; clear hK K)
          iterate 2 ((first | refine mixsq rfl rfl 0 (by decide +kernel) ?_ (fun w' hw' => Or.inl ?_) (fun K hK => ?_) | refine mixsq rfl rfl 1 (by decide +kernel) ?_ (fun w' hw' => Or.inl ?_) (fun K hK => ?_) | refine mixsq rfl rfl 2 (by decide +kernel) ?_ (fun w' hw' => Or.inl ?_) (fun K hK => ?_) | refine mixsq rfl rfl 3 (by decide +kernel) ?_ (fun w' hw' => Or.inl ?_) (fun K hK => ?_) | refine mixsq rfl rfl 4 (by decide +kernel) ?_ (fun w' hw' => Or.inl ?_) (fun K hK => ?_) | refine mixsq rfl rfl 5 (by decide +kernel) ?_ (fun w' hw' => Or.inl ?_) (fun K hK => ?_) | refine mixsq rfl rfl 6 (by decide +kernel) ?_ (fun w' hw' => Or.inl ?_) (fun K hK => ?_)); rotate_left; (focus (go_simp; rfl)); go_simp; refine hK _ ?_; clear hK K)
          iterate 1 (refine mixsq_no rfl (by first | rfl | kernel_rfl) (fun K hK => ?_); go_simp; refine hK _ ?_; clear hK K)
          (refine mixsl_no rfl (by first | rfl | kernel_rfl) (fun K hK => ?_); go_simp; refine hK _ ?_; clear hK K)
          iterate 4 (refine mixsq_no rfl (by first | rfl | kernel_rfl) (fun K hK => ?_); go_simp; refine hK _ ?_; clear hK K)
          (first | refine mixsq rfl rfl 0 (by decide +kernel) ?_ (fun w' hw' => Or.inl ?_) (fun K hK => ?_) | refine mixsq rfl rfl 1 (by decide +kernel) ?_ (fun w' hw' => Or.inl ?_) (fun K hK => ?_) | refine mixsq rfl rfl 2 (by decide +kernel) ?_ (fun w' hw' => Or.inl ?_) (fun K hK => ?_) | refine mixsq rfl rfl 3 (by decide +kernel) ?_ (fun w' hw' => Or.inl ?_) (fun K hK => ?_) | refine mixsq rfl rfl 4 (by decide +kernel) ?_ (fun w' hw' => Or.inl ?_) (fun K hK => ?_) | refine mixsq rfl rfl 5 (by decide +kernel) ?_ (fun w' hw' => Or.inl ?_) (fun K hK => ?_) | refine mixsq rfl rfl 6 (by decide +kernel) ?_ (fun w' hw' => Or.inl ?_) (fun K hK => ?_)); rotate_left; (focus (go_simp; rfl)); go_simp; refine hK _ ?_; clear hK K
          refine mixs_nil ?_
          have hRd := Lib.hid (hR9.out.chg (Chg.of_below bd) (S := fun _ => False) id)
          have hBd := Lib.hid (hB9.out.trans (bd.mono hB9.out.size))
          generalize w9.drew = w10 at *
          clear hNm bd hC hCx hld hR9 hB9 hP9
          go_wp2_with (with_reducible refine stop_store 46 ?_)
          refine Stop.mk (wpList_store_row rfl 46 _ _ rfl w.heap.size zeroE.cells rfl rfl 46 zeroE.cells hRd.out (by kernel_rfl) rfl (by kernel_rfl) ?_)
          have hR2 : Blk (World.setRow w10 w.heap.size zeroE.cells) w.heap.size 46 zeroE.cells := setRow_heap _ _ _ _ _ _ hRd.out
          have hB2 : Below w.heap.size w (World.setRow w10 w.heap.size zeroE.cells) := below_setRow hBd.out (Nat.le_refl _) _
          generalize World.setRow w10 w.heap.size zeroE.cells = w2 at *
          go_wp2
          (try simp only [Exit.inBlock, Exit.then])
          refine bodyPost_ret (results_cell_tmp (ty := 46) rfl rfl (loadVar_blk hR2 Try.underlying46 rfl (by kernel_rfl))) rfl ?_
          rw [hz2.out]
          exact ⟨rfl, hB2⟩
        · have hNm := RName_calls w9.drew nm (by have := hnl.out; omega)
          rw [hnb] at hNm
          by_cases hi1 : (I : Int) < 1
          · have hz2 : Hid (decD bs = (zeroE, 3)) := by show _ = _; rw [hz.out, if_pos (.inr (.inl hi1))]
            clear hnb hz
            refine wp_mixs (fun W => Below w9.heap.size w9 W) [2, 11] (by kernel_rfl) (by kernel_rfl) (by kernel_rfl) (by decide) bd ?_
            iterate 2 ((first | refine mixsq rfl rfl 0 (by decide +kernel) ?_ (fun w' hw' => Or.inl ?_) (fun K hK => ?_) | refine mixsq rfl rfl 1 (by decide +kernel) ?_ (fun w' hw' => Or.inl ?_) (fun K hK => ?_) | refine mixsq rfl rfl 2 (by decide +kernel) ?_ (fun w' hw' => Or.inl ?_) (fun K hK => ?_) | refine mixsq rfl rfl 3 (by decide +kernel) ?_ (fun w' hw' => Or.inl ?_) (fun K hK => ?_) | refine mixsq rfl rfl 4 (by decide +kernel) ?_ (fun w' hw' => Or.inl ?_) (fun K hK => ?_) | refine mixsq rfl rfl 5 (by decide +kernel) ?_ (fun w' hw' => Or.inl ?_) (fun K hK => ?_) | refine mixsq rfl rfl 6 (by decide +kernel) ?_ (fun w' hw' => Or.inl ?_) (fun K hK => ?_)); rotate_left; (focus (have hb : Below w9.heap.size w9 w' := hw'; have k1 := (hC.out w' hb).1; have k2 := (hC.out w' hb).2; go_simp; rfl)); go_simp; refine hK _ ?_; clear hK K)
            refine mixsl rfl rfl (fun K hK => ?_)
            go_simp
            refine hNm.mono ?_
            rintro e w10 ⟨rfl, rfl⟩
            refine hK (fun W => Below w9.heap.size w9 W) _ _ (fun _ => ⟨bd, fun _ => bd⟩) ?_
            clear hK K
            iterate 2 ((first | refine mixsq rfl rfl 0 (by decide +kernel) ?_ (fun w' hw' => Or.inl ?_) (fun K hK => ?_) | refine mixsq rfl rfl 1 (by decide +kernel) ?_ (fun w' hw' => Or.inl ?_) (fun K hK => ?_) | refine mixsq rfl rfl 2 (by decide +kernel) ?_ (fun w' hw' => Or.inl ?_) (fun K hK => ?_) | refine mixsq rfl rfl 3 (by decide +kernel) ?_ (fun w' hw' => Or.inl ?_) (fun K hK => ?_) | refine mixsq rfl rfl 4 (by decide +kernel) ?_ (fun w' hw' => Or.inl ?_) (fun K hK => ?_) | refine mixsq rfl rfl 5 (by decide +kernel) ?_ (fun w' hw' => Or.inl ?_) (fun K hK => ?_) | refine mixsq rfl rfl 6 (by decide +kernel) ?_ (fun w' hw' => Or.inl ?_) (fun K hK => ?_)); rotate_left; (focus (go_simp; rfl)); go_simp; refine hK _ ?_; clear hK K)
            iterate 3 ((first | refine mixsq_yes rfl (by first | rfl | kernel_rfl) 0 (by decide +kernel) ?_ (fun w' hw' => Or.inl ?_) (fun K hK => ?_) | refine mixsq_yes rfl (by first | rfl | kernel_rfl) 1 (by decide +kernel) ?_ (fun w' hw' => Or.inl ?_) (fun K hK => ?_) | refine mixsq_yes rfl (by first | rfl | kernel_rfl) 2 (by decide +kernel) ?_ (fun w' hw' => Or.inl ?_) (fun K hK => ?_) | refine mixsq_yes rfl (by first | rfl | kernel_rfl) 3 (by decide +kernel) ?_ (fun w' hw' => Or.inl ?_) (fun K hK => ?_) | refine mixsq_yes rfl (by first | rfl | kernel_rfl) 4 (by decide +kernel) ?_ (fun w' hw' => Or.inl ?_) (fun K hK => ?_) | refine mixsq_yes rfl (by first | rfl | kernel_rfl) 5 (by decide +kernel) ?_ (fun w' hw' => Or.inl ?_) (fun K hK => ?_) | refine mixsq_yes rfl (by first | rfl | kernel_rfl) 6 (by decide +kernel) ?_ (fun w' hw' => Or.inl ?_) (fun K hK => ?_)); rotate_left; (focus (have hb : Below w9.heap.size w9 w' := hw'; have k1 := (hC.out w' hb).1; have k2 := (hC.out w' hb).2; go_simp; rfl)); go_simp; refine hK _ ?_; clear hK K)
            iterate 2 ((first | refine mixsq rfl rfl 0 (by decide +kernel) ?_ (fun w' hw' => Or.inl ?_) (fun K hK => ?_) | refine mixsq rfl rfl 1 (by decide +kernel) ?_ (fun w' hw' => Or.inl ?_) (fun K hK => ?_) | refine mixsq rfl rfl 2 (by decide +kernel) ?_ (fun w' hw' => Or.inl ?_) (fun K hK => ?_) | refine mixsq rfl rfl 3 (by decide +kernel) ?_ (fun w' hw' => Or.inl ?_) (fun K hK => ?_) | refine mixsq rfl rfl 4 (by decide +kernel) ?_ (fun w' hw' => Or.inl ?_) (fun K hK => ?_) | refine mixsq rfl rfl 5 (by decide +kernel) ?_ (fun w' hw' => Or.inl ?_) (fun K hK => ?_) | refine mixsq rfl rfl 6 (by decide +kernel) ?_ (fun w' hw' => Or.inl ?_) (fun K hK => ?_)); rotate_left; (focus (go_simp; rfl)); go_simp; refine hK _ ?_; clear hK K)
            iterate 1 (refine mixsq_no rfl (by first | rfl | kernel_rfl) (fun K hK => ?_); go_simp; refine hK _ ?_; clear hK K)
            (refine mixsl_no rfl (by first | rfl | kernel_rfl) (fun K hK => ?_); go_simp; refine hK _ ?_; clear hK K)
            iterate 4 (refine mixsq_no rfl (by first | rfl | kernel_rfl) (fun K hK => ?_); go_simp; refine hK _ ?_; clear hK K)
            (first | refine mixsq rfl rfl 0 (by decide +kernel) ?_ (fun w' hw' => Or.inl ?_) (fun K hK => ?_) | refine mixsq rfl rfl 1 (by decide +kernel) ?_ (fun w' hw' => Or.inl ?_) (fun K hK => ?_) | refine mixsq rfl rfl 2 (by decide +kernel) ?_ (fun w' hw' => Or.inl ?_) (fun K hK => ?_) | refine mixsq rfl rfl 3 (by decide +kernel) ?_ (fun w' hw' => Or.inl ?_) (fun K hK => ?_) | refine mixsq rfl rfl 4 (by decide +kernel) ?_ (fun w' hw' => Or.inl ?_) (fun K hK => ?_) | refine mixsq rfl rfl 5 (by decide +kernel) ?_ (fun w' hw' => Or.inl ?_) (fun K hK => ?_) | refine mixsq rfl rfl 6 (by decide +kernel) ?_ (fun w' hw' => Or.inl ?_) (fun K hK => ?_)); rotate_left; (focus (go_simp; rfl)); go_simp; refine hK _ ?_; clear hK K
            refine mixs_nil ?_
            have hRd := Lib.hid (hR9.out.chg (Chg.of_below bd) (S := fun _ => False) id)
            have hBd := Lib.hid (hB9.out.trans (bd.mono hB9.out.size))
            generalize w9.drew = w10 at *
            clear hNm bd hC hCx hld hR9 hB9 hP9
            go_wp2_with (with_reducible refine stop_store 46 ?_)
            refine Stop.mk (wpList_store_row rfl 46 _ _ rfl w.heap.size zeroE.cells rfl rfl 46 zeroE.cells hRd.out (by kernel_rfl) rfl (by kernel_rfl) ?_)
            have hR2 : Blk (World.setRow w10 w.heap.size zeroE.cells) w.heap.size 46 zeroE.cells := setRow_heap _ _ _ _ _ _ hRd.out
            have hB2 : Below w.heap.size w (World.setRow w10 w.heap.size zeroE.cells) := below_setRow hBd.out (Nat.le_refl _) _
            generalize World.setRow w10 w.heap.size zeroE.cells = w2 at *
            go_wp2
            (try simp only [Exit.inBlock, Exit.then])
            refine bodyPost_ret (results_cell_tmp (ty := 46) rfl rfl (loadVar_blk hR2 Try.underlying46 rfl (by kernel_rfl))) rfl ?_
            rw [hz2.out]
            exact ⟨rfl, hB2⟩
          · have hz : Hid (decD bs = if encE ⟨nm, (I : Int)⟩ ≠ bs then (zeroE, 3) else (⟨nm, (I : Int)⟩, 0)) := by
              show _ = _
              rw [hz.out]
              simp [hnb, hi1]
            have hE := Lib.hid (REncodeE_calls w9.drew ⟨nm, (I : Int)⟩ (by have := hnl.out; show nm.length ≤ _; omega) (show (_ : Int) ≤ (I : Int) by omega) (show (I : Int) ≤ _ by have := hI16.out; omega))
            clear hnb
            refine wp_mixs (fun W => Below w9.heap.size w9 W) [2, 11] (by kernel_rfl) (by kernel_rfl) (by kernel_rfl) (by decide) bd ?_
            iterate 2 ((first | refine mixsq rfl rfl 0 (by decide +kernel) ?_ (fun w' hw' => Or.inl ?_) (fun K hK => ?_) | refine mixsq rfl rfl 1 (by decide +kernel) ?_ (fun w' hw' => Or.inl ?_) (fun K hK => ?_) | refine mixsq rfl rfl 2 (by decide +kernel) ?_ (fun w' hw' => Or.inl ?_) (fun K hK => ?_) | refine mixsq rfl rfl 3 (by decide +kernel) ?_ (fun w' hw' => Or.inl ?_) (fun K hK => ?_) | refine mixsq rfl rfl 4 (by decide +kernel) ?_ (fun w' hw' => Or.inl ?_) (fun K hK => ?_) | refine mixsq rfl rfl 5 (by decide +kernel) ?_ (fun w' hw' => Or.inl ?_) (fun K hK => ?_) | refine mixsq rfl rfl 6 (by decide +kernel) ?_ (fun w' hw' => Or.inl ?_) (fun K hK => ?_)); rotate_left; (focus (have hb : Below w9.heap.size w9 w' := hw'; have k1 := (hC.out w' hb).1; have k2 := (hC.out w' hb).2; go_simp; rfl)); go_simp; refine hK _ ?_; clear hK K)
            refine mixsl rfl rfl (fun K hK => ?_)
            go_simp
            refine hNm.mono ?_
            rintro e w10 ⟨rfl, rfl⟩
            refine hK (fun W => Below w9.heap.size w9 W) _ _ (fun _ => ⟨bd, fun _ => bd⟩) ?_
            clear hK K
            iterate 2 ((first | refine mixsq rfl rfl 0 (by decide +kernel) ?_ (fun w' hw' => Or.inl ?_) (fun K hK => ?_) | refine mixsq rfl rfl 1 (by decide +kernel) ?_ (fun w' hw' => Or.inl ?_) (fun K hK => ?_) | refine mixsq rfl rfl 2 (by decide +kernel) ?_ (fun w' hw' => Or.inl ?_) (fun K hK => ?_) | refine mixsq rfl rfl 3 (by decide +kernel) ?_ (fun w' hw' => Or.inl ?_) (fun K hK => ?_) | refine mixsq rfl rfl 4 (by decide +kernel) ?_ (fun w' hw' => Or.inl ?_) (fun K hK => ?_) | refine mixsq rfl rfl 5 (by decide +kernel) ?_ (fun w' hw' => Or.inl ?_) (fun K hK => ?_) | refine mixsq rfl rfl 6 (by decide +kernel) ?_ (fun w' hw' => Or.inl ?_) (fun K hK => ?_)); rotate_left; (focus (go_simp; rfl)); go_simp; refine hK _ ?_; clear hK K)
            iterate 3 ((first | refine mixsq_yes rfl (by first | rfl | kernel_rfl) 0 (by decide +kernel) ?_ (fun w' hw' => Or.inl ?_) (fun K hK => ?_) | refine mixsq_yes rfl (by first | rfl | kernel_rfl) 1 (by decide +kernel) ?_ (fun w' hw' => Or.inl ?_) (fun K hK => ?_) | refine mixsq_yes rfl (by first | rfl | kernel_rfl) 2 (by decide +kernel) ?_ (fun w' hw' => Or.inl ?_) (fun K hK => ?_) | refine mixsq_yes rfl (by first | rfl | kernel_rfl) 3 (by decide +kernel) ?_ (fun w' hw' => Or.inl ?_) (fun K hK => ?_) | refine mixsq_yes rfl (by first | rfl | kernel_rfl) 4 (by decide +kernel) ?_ (fun w' hw' => Or.inl ?_) (fun K hK => ?_) | refine mixsq_yes rfl (by first | rfl | kernel_rfl) 5 (by decide +kernel) ?_ (fun w' hw' => Or.inl ?_) (fun K hK => ?_) | refine mixsq_yes rfl (by first | rfl | kernel_rfl) 6 (by decide +kernel) ?_ (fun w' hw' => Or.inl ?_) (fun K hK => ?_)); rotate_left; (focus (have hb : Below w9.heap.size w9 w' := hw'; have k1 := (hC.out w' hb).1; have k2 := (hC.out w' hb).2; go_simp; rfl)); go_simp; refine hK _ ?_; clear hK K)
            iterate 2 ((first | refine mixsq rfl rfl 0 (by decide +kernel) ?_ (fun w' hw' => Or.inl ?_) (fun K hK => ?_) | refine mixsq rfl rfl 1 (by decide +kernel) ?_ (fun w' hw' => Or.inl ?_) (fun K hK => ?_) | refine mixsq rfl rfl 2 (by decide +kernel) ?_ (fun w' hw' => Or.inl ?_) (fun K hK => ?_) | refine mixsq rfl rfl 3 (by decide +kernel) ?_ (fun w' hw' => Or.inl ?_) (fun K hK => ?_) | refine mixsq rfl rfl 4 (by decide +kernel) ?_ (fun w' hw' => Or.inl ?_) (fun K hK => ?_) | refine mixsq rfl rfl 5 (by decide +kernel) ?_ (fun w' hw' => Or.inl ?_) (fun K hK => ?_) | refine mixsq rfl rfl 6 (by decide +kernel) ?_ (fun w' hw' => Or.inl ?_) (fun K hK => ?_)); rotate_left; (focus (go_simp; rfl)); go_simp; refine hK _ ?_; clear hK K)
            (first | (refine mixsq_yes rfl (by first | rfl | kernel_rfl) 0 (by decide +kernel) (.agg (Ent.cells ⟨nm, (I : Int)⟩)) (fun w' hw' => Or.inl (exec_load rfl rfl (hld.out w' hw'))) (fun K hK => ?_)) | (refine mixsq_yes rfl (by first | rfl | kernel_rfl) 1 (by decide +kernel) (.agg (Ent.cells ⟨nm, (I : Int)⟩)) (fun w' hw' => Or.inl (exec_load rfl rfl (hld.out w' hw'))) (fun K hK => ?_)) | (refine mixsq_yes rfl (by first | rfl | kernel_rfl) 2 (by decide +kernel) (.agg (Ent.cells ⟨nm, (I : Int)⟩)) (fun w' hw' => Or.inl (exec_load rfl rfl (hld.out w' hw'))) (fun K hK => ?_)))
            go_simp
            refine hK _ ?_
            clear hK K
            refine mixsl_yes rfl (by first | rfl | kernel_rfl) (fun K hK => ?_)
            go_simp
            refine hE.out.mono ?_
            rintro e w11 ⟨re, rfl, hoe, hBe, _⟩
            have b11 : Below w9.heap.size w9 w11 := bd.trans (hBe.mono bd.size)
            have r11 := Rd.of_own hoe
            obtain ⟨Ae, ce, rfl⟩ := hoe.shape
            refine hK (fun W => Below w9.heap.size w9 W ∧ Rd W (.slice Ae (encE ⟨nm, (I : Int)⟩).length ce) (bvs (encE ⟨nm, (I : Int)⟩))) _ _ (fun _ => ⟨⟨b11, r11⟩, ext_all (fun _ => b11) b11⟩) ?_
            clear hK K hoe hBe
            (refine mixsq_yes rfl (by first | rfl | kernel_rfl) 2 (by decide +kernel) ?_ (fun w' hw' => Or.inl ?_) (fun K hK => ?_)); rotate_left; (focus (have hb : Below w9.heap.size w9 w' ∧ Rd w' (.slice Ae (encE ⟨nm, (I : Int)⟩).length ce) (bvs (encE ⟨nm, (I : Int)⟩)) := hw'; have s1 := run_str (P := Try.prog) w' 30 9 5 _ _ Try.underlying30 Try.underlying5 Try.underlying9 (hb.2); unfold str at s1; go_simp; rfl)); go_simp; refine hK _ ?_; clear hK K
            (first | refine mixsq_yes rfl (by first | rfl | kernel_rfl) 0 (by decide +kernel) ?_ (fun w' hw' => Or.inl ?_) (fun K hK => ?_) | refine mixsq_yes rfl (by first | rfl | kernel_rfl) 1 (by decide +kernel) ?_ (fun w' hw' => Or.inl ?_) (fun K hK => ?_) | refine mixsq_yes rfl (by first | rfl | kernel_rfl) 2 (by decide +kernel) ?_ (fun w' hw' => Or.inl ?_) (fun K hK => ?_) | refine mixsq_yes rfl (by first | rfl | kernel_rfl) 3 (by decide +kernel) ?_ (fun w' hw' => Or.inl ?_) (fun K hK => ?_) | refine mixsq_yes rfl (by first | rfl | kernel_rfl) 4 (by decide +kernel) ?_ (fun w' hw' => Or.inl ?_) (fun K hK => ?_) | refine mixsq_yes rfl (by first | rfl | kernel_rfl) 5 (by decide +kernel) ?_ (fun w' hw' => Or.inl ?_) (fun K hK => ?_) | refine mixsq_yes rfl (by first | rfl | kernel_rfl) 6 (by decide +kernel) ?_ (fun w' hw' => Or.inl ?_) (fun K hK => ?_)); rotate_left; (focus (go_simp; rfl)); go_simp; refine hK _ ?_; clear hK K
            first
            | ((refine mixsq_yes rfl (by first | rfl | kernel_rfl) 1 (by decide +kernel) ?_ (fun w' hw' => Or.inl ?_) (fun K hK => ?_)); rotate_left; (focus (have hb : Below w9.heap.size w9 w' := hw'; have s1 := run_str (P := Try.prog) w' 30 9 5 _ _ Try.underlying30 Try.underlying5 Try.underlying9 (hCx.out w' hb); unfold str at s1; go_simp; rfl)); go_simp; refine hK _ ?_; clear hK K)
            | ((refine mixsq_yes rfl (by first | rfl | kernel_rfl) 2 (by decide +kernel) ?_ (fun w' hw' => Or.inl ?_) (fun K hK => ?_)); rotate_left; (focus (have hb : Below w9.heap.size w9 w' ∧ Rd w' (.slice Ae (encE ⟨nm, (I : Int)⟩).length ce) (bvs (encE ⟨nm, (I : Int)⟩)) := hw'; have s1 := run_str (P := Try.prog) w' 30 9 5 _ _ Try.underlying30 Try.underlying5 Try.underlying9 (hCx.out w' hb.1); unfold str at s1; go_simp; rfl)); go_simp; refine hK _ ?_; clear hK K)
            (first | refine mixsq_yes rfl (by first | rfl | kernel_rfl) 0 (by decide +kernel) ?_ (fun w' hw' => Or.inl ?_) (fun K hK => ?_) | refine mixsq_yes rfl (by first | rfl | kernel_rfl) 1 (by decide +kernel) ?_ (fun w' hw' => Or.inl ?_) (fun K hK => ?_) | refine mixsq_yes rfl (by first | rfl | kernel_rfl) 2 (by decide +kernel) ?_ (fun w' hw' => Or.inl ?_) (fun K hK => ?_) | refine mixsq_yes rfl (by first | rfl | kernel_rfl) 3 (by decide +kernel) ?_ (fun w' hw' => Or.inl ?_) (fun K hK => ?_) | refine mixsq_yes rfl (by first | rfl | kernel_rfl) 4 (by decide +kernel) ?_ (fun w' hw' => Or.inl ?_) (fun K hK => ?_) | refine mixsq_yes rfl (by first | rfl | kernel_rfl) 5 (by decide +kernel) ?_ (fun w' hw' => Or.inl ?_) (fun K hK => ?_) | refine mixsq_yes rfl (by first | rfl | kernel_rfl) 6 (by decide +kernel) ?_ (fun w' hw' => Or.inl ?_) (fun K hK => ?_)); rotate_left; (focus (go_simp; rfl)); go_simp; refine hK _ ?_; clear hK K
            (first | refine mixsq rfl rfl 0 (by decide +kernel) ?_ (fun w' hw' => Or.inl ?_) (fun K hK => ?_) | refine mixsq rfl rfl 1 (by decide +kernel) ?_ (fun w' hw' => Or.inl ?_) (fun K hK => ?_) | refine mixsq rfl rfl 2 (by decide +kernel) ?_ (fun w' hw' => Or.inl ?_) (fun K hK => ?_) | refine mixsq rfl rfl 3 (by decide +kernel) ?_ (fun w' hw' => Or.inl ?_) (fun K hK => ?_) | refine mixsq rfl rfl 4 (by decide +kernel) ?_ (fun w' hw' => Or.inl ?_) (fun K hK => ?_) | refine mixsq rfl rfl 5 (by decide +kernel) ?_ (fun w' hw' => Or.inl ?_) (fun K hK => ?_) | refine mixsq rfl rfl 6 (by decide +kernel) ?_ (fun w' hw' => Or.inl ?_) (fun K hK => ?_)); rotate_left; (focus (go_simp; rfl)); go_simp; refine hK _ ?_; clear hK K
            refine mixs_nil ?_
            have hRd := Lib.hid (hR9.out.chg (Chg.of_below b11) (S := fun _ => False) id)
            have hBd := Lib.hid (hB9.out.trans (b11.mono hB9.out.size))
            clear hR9 hB9 hP9 bd
            by_cases hg : encE ⟨nm, (I : Int)⟩ = bs
            · have hz2 : Hid (decD bs = (⟨nm, (I : Int)⟩, 0)) := by show _ = _; rw [hz.out, if_neg (fun h => h hg)]
              have hk1 : w11.cell? ⟨P, 0, none⟩ = some (.string ⟨nm.toArray⟩) := (hC.out w11 b11).1
              have hk2 : w11.cell? ⟨P, 1, none⟩ = some (.int .i64 (I : Int)) := (hC.out w11 b11).2
              have hgb : (encE ⟨nm, (I : Int)⟩ == bs) = true := by rw [hg]; exact beq_self_eq_true _
              rw [hgb]
              clear hg hgb hz r11 hC hCx hld hNm hE
              go_wp2_with (with_reducible refine stop_store 46 ?_)
              refine Stop.mk (wpList_store_row rfl 46 _ _ rfl w.heap.size (Ent.cells ⟨nm, (I : Int)⟩) rfl rfl 46 zeroE.cells hRd.out (by kernel_rfl) rfl (by kernel_rfl) ?_)
              have hR2 : Blk (World.setRow w11 w.heap.size (Ent.cells ⟨nm, (I : Int)⟩)) w.heap.size 46 (Ent.cells ⟨nm, (I : Int)⟩) := setRow_heap _ _ _ _ _ _ hRd.out
              have hB2 : Below w.heap.size w (World.setRow w11 w.heap.size (Ent.cells ⟨nm, (I : Int)⟩)) := below_setRow hBd.out (Nat.le_refl _) _
              generalize World.setRow w11 w.heap.size (Ent.cells ⟨nm, (I : Int)⟩) = w2 at *
              go_wp2
              (try simp only [Exit.inBlock, Exit.then])
              refine bodyPost_ret (results_cell_tmp (ty := 46) rfl rfl (loadVar_blk hR2 Try.underlying46 rfl (by kernel_rfl))) rfl ?_
              rw [hz2.out]
              exact ⟨rfl, hB2⟩
            · have hz2 : Hid (decD bs = (zeroE, 3)) := by show _ = _; rw [hz.out, if_pos hg]
              have hgb : (encE ⟨nm, (I : Int)⟩ == bs) = false := beq_eq_false_iff_ne.2 hg
              rw [hgb]
              clear hg hgb hz r11 hC hCx hld hNm hE
              go_wp2_with (with_reducible refine stop_store 46 ?_)
              refine Stop.mk (wpList_store_row rfl 46 _ _ rfl w.heap.size zeroE.cells rfl rfl 46 zeroE.cells hRd.out (by kernel_rfl) rfl (by kernel_rfl) ?_)
              have hR2 : Blk (World.setRow w11 w.heap.size zeroE.cells) w.heap.size 46 zeroE.cells := setRow_heap _ _ _ _ _ _ hRd.out
              have hB2 : Below w.heap.size w (World.setRow w11 w.heap.size zeroE.cells) := below_setRow hBd.out (Nat.le_refl _) _
              generalize World.setRow w11 w.heap.size zeroE.cells = w2 at *
              go_wp2
              (try simp only [Exit.inBlock, Exit.then])
              refine bodyPost_ret (results_cell_tmp (ty := 46) rfl rfl (loadVar_blk hR2 Try.underlying46 rfl (by kernel_rfl))) rfl ?_
              rw [hz2.out]
              exact ⟨rfl, hB2⟩
    · have hz2 : Hid (decD bs = (zeroE, oe)) := by show _ = _; rw [hz.out, if_pos he]
      have heb : (oe != 0) = true := by simpa using he
      obtain ⟨A1, c1, rfl⟩ := ho1.shape
      have hR1h := Lib.hid hR1
      have hB1h := Lib.hid hB1'
      clear he
      go_wp2_with (with_reducible refine stop_store 46 ?_)
      refine Stop.mk (wpList_store_row rfl 46 _ _ rfl w.heap.size zeroE.cells rfl rfl 46 zeroE.cells hR1h.out (by kernel_rfl) rfl (by kernel_rfl) ?_)
      have hR2 : Blk (World.setRow w1 w.heap.size zeroE.cells) w.heap.size 46 zeroE.cells := setRow_heap _ _ _ _ _ _ hR1h.out
      have hB2 : Below w.heap.size w (World.setRow w1 w.heap.size zeroE.cells) := below_setRow hB1h.out (Nat.le_refl _) _
      generalize World.setRow w1 w.heap.size zeroE.cells = w2 at *
      go_wp2
      (try simp only [Exit.inBlock, Exit.then])
      refine bodyPost_ret (results_cell_tmp (ty := 46) rfl rfl (loadVar_blk hR2 Try.underlying46 rfl (by kernel_rfl))) rfl ?_
      rw [hz2.out]
      exact ⟨rfl, hB2⟩
end Go.Proofs.Ytoloogpglnonaaa
