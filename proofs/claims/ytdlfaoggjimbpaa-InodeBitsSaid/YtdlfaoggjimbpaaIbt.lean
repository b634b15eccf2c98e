/- InodeBits. -/
import Derived.Test.YtdlfaoggjimbpaaIkn
namespace Go.Proofs.Ytdlfaoggjimbpaa
open Go.RowKit
theorem dec_flip (n : Nd) (j : Nat) (hj : j < (encP n).length) (d : UInt8) (hne : (encP n)[j] ≠ d) : decP ((encP n).set j d) = (zeroNd, 4) := by
  have ho : openP ((encP n).set j d) = ([], 4) := open_set (encB n) j hj d hne
  have hl : ((encP n).set j d).length = 64 := by rw [List.length_set, encP_len]
  unfold decP
  rw [hl, if_neg (by omega), if_neg (by omega), ho, if_pos (by decide)]
theorem dec_short (b : List UInt8) (h : b.length < 64) : decP b = (zeroNd, 2) := by
  unfold decP
  rw [if_pos h]
theorem dec_long (b : List UInt8) (h : 64 < b.length) : decP b = (zeroNd, 5) := by
  unfold decP
  rw [if_neg (by omega), if_pos h]
/-- append([]byte{}, b...): bytes of its own. -/
theorem fresh_app {w w1 : World} {v1 : Value} {bs : List UInt8} (hown : w1.ownsRow 0 5 1 v1 (0 + (bvs bs).length) ([] ++ bvs bs)) (hg : (w.alloc (.cells #[] 5)).grownBy w1 (Value.slice (some ⟨w.heap.size, 0, none⟩) 0 0).ownBlock)
    (hat : v1.ownBlock = (Value.slice (some ⟨w.heap.size, 0, none⟩) 0 0).ownBlock ∨ v1.ownBlock = some (w.alloc (.cells #[] 5)).heap.size) :
    Own8 w1 v1 bs ∧ Below w.heap.size w w1 ∧ ∀ k, v1.ownBlock = some k → w.heap.size ≤ k := by
  refine ⟨by simpa [Own8, bvs_length] using hown, ((Below.refl _ _).alloc (Nat.le_refl _) _).grown hg (by simp) (fun k hk => by simp [Value.ownBlock] at hk; omega), fun k hk => ?_⟩
  rcases hat with e | e <;> rw [hk] at e <;> simp [Value.ownBlock] at e <;> omega
theorem eq8z (W : World) : (Op.equalIn 9999 63 (.agg #[.int .i64 0, .int .i64 0, .int .i64 0, .int .i64 0, .int .i64 0, .int .i64 0, .int .i64 0, .int .i64 0]) (.agg #[.int .i64 0, .int .i64 0, .int .i64 0, .int .i64 0, .int .i64 0, .int .i64 0, .int .i64 0, .int .i64 0])).run Try.prog W = .ok true W := by kernel_rfl
set_option maxRecDepth 100000 in
set_option maxHeartbeats 4000000 in
theorem InodeBits_calls (w : World) (n : Nd) {y : Value} {more : List UInt8} {bit : Int} (ww1 : (Lit.int .i64 bit).wf = true) (xx2 : Rd w y (bvs more)) (ll2 : more.length ≤ 9223372036854775807) :
    Calls Try.prog 9 #[.agg n.cells, .int .i64 bit, y] w fun e w' => e = .returned (.bool true) ∧ Below w.heap.size w w' := by
  obtain ⟨i0, hi, hz0, hz1, hz2⟩ := info_parts Try.info_u8
  obtain ⟨n1, n2⟩ := wf64 ww1
  have hy0 := xx2
  obtain ⟨A, c, rfl⟩ := xx2.shape8
  have hbx : Blk (w.alloc (.cells n.cells 65)) w.heap.size 65 n.cells := Blk.new _ _ _
  have hwb : Below w.heap.size w (w.alloc (.cells n.cells 65)) := (Below.refl _ _).alloc (Nat.le_refl _) _
  obtain ⟨wb, hwq⟩ : ∃ wb, wb = w.alloc (.cells n.cells 65) := ⟨_, rfl⟩
  rw [← hwq] at hbx hwb
  unfold Nd.cells at hwq
  by_cases hm : more.length ≤ 100
  · unfold Nd.cells
    go_enter Try.func9, Try.ntmps9
    go_wp2_with fail
    rw [← hwq]
    clear hwq
    refine (iknown_calls wb).mono ?_
    rintro e w1 ⟨rfl, hB1⟩
    have hB1' := hwb.trans (hB1.mono hwb.size)
    have hb1 := hbx.chg (Chg.of_below hB1) (S := fun _ => False) id
    have hld := loadVar_blk (P := Try.prog) hb1 Try.underlying65 rfl (by kernel_rfl)
    have hld : (Instr.loadAt 65 (.pointer (some ⟨w.heap.size, 0, none⟩))).run Try.prog w1 = .ok (.agg n.cells) w1 := by
      simp only [Instr.loadAt, Instr.sureAddr, Sem.run_bind, Sem.run_pure, Result.andThen_ok]
      exact hld
    clear hbx hb1 hB1 hwb
    go_wp2_with (with_reducible refine stop_load 65 ?_)
    refine Stop.mk (wpList_load_cells rfl rfl rfl hld ?_)
    clear hld
    go_wp2_with fail
    refine (Encode_calls w1 n).mono ?_
    rintro e w2 ⟨xv, rfl, hx2, hB2, hf2⟩
    have hB2' := hB1'.trans (hB2.mono hB1'.size)
    obtain ⟨sl, hsl⟩ : ∃ sl, Hid (sl = encP n) := ⟨_, rfl⟩
    have hL : Hid (sl.length = 64) := by show _ = _; rw [hsl.out, encP_len]
    rw [← hsl.out] at hx2
    obtain ⟨gx, cx, rfl⟩ := hx2.form (by have := hL.out; omega)
    rw [hL.out]
    have hx2h := Lib.hid hx2
    have hfx : Hid (w1.heap.size ≤ gx) := hf2 gx rfl
    have hcx : 64 ≤ cx := by
      obtain ⟨_, _, e, hl, _⟩ := Rd.of_own hx2
      injection e with _ _ e3
      rw [e3, ← hL.out, ← bvs_length sl]
      exact hl
    have hBh := Lib.hid hB2'
    clear hf2 hB2 hB1' hx2 hB2'
    have hqa : Int.tmod bit 512 < 512 := Int.tmod_lt_of_pos _ (by omega)
    have hqb : -512 < Int.tmod bit 512 := Int.lt_tmod_of_pos _ (by omega)
    have R2 : Hid (Rd w2 (.slice (some ⟨gx, 0, none⟩) 64 cx) (bvs sl)) := by
      show Rd _ _ _
      have := Rd.of_own hx2h.out
      rw [hL.out] at this
      exact this
    have R2a : Hid (Rd (w2.alloc (.cells #[] 5)) (.slice (some ⟨gx, 0, none⟩) 64 cx) (bvs sl)) := R2.out.alloc _
    by_cases hq0 : Int.tmod bit 512 < 0
    all_goals
      go_wp2_with (at_builtin; refine stop_app rfl ?_)
      refine Stop.mk (wpList_app _ rfl rfl (us := bvs sl) (base := 0) Try.underlying28 hi hz0 hz1 hz2 rfl (World.ownsRow_made w2 #[] 0 (Nat.zero_le _) (by unfold maxLen; omega) rfl) rfl R2a.out rfl (bvs_one _) ?_ ?_ (Nat.zero_le _) ?_)
      · have := hL.out; unfold maxLen; simp only [bvs_length]; omega
      · have := hL.out; simp only [bvs_length]; omega
      intro v9 w9 hown hg hat
      obtain ⟨hown9, hB9, hfr⟩ := fresh_app hown hg hat
      have hHB9 := Lib.hid (hBh.out.trans (hB9.mono hBh.out.size))
      have hsz7 := hBh.out.size
      clear hown hat hg
      obtain ⟨g9, c9, rfl⟩ := hown9.form (by have := hL.out; omega)
      rw [hL.out]
      have hm2 : ∃ m : Nat, m < 512 ∧ (if Int.tmod bit 512 < 0 then Int.tmod bit 512 + 512 else Int.tmod bit 512) = (m : Int) := by
        split
        · exact ⟨(Int.tmod bit 512 + 512).toNat, by omega, by omega⟩
        · exact ⟨(Int.tmod bit 512).toNat, by omega, by omega⟩
      obtain ⟨m, hmL, hm2⟩ := hm2
      first
      | rw [if_pos (by omega)] at hm2
      | rw [if_neg (by omega)] at hm2
      rw [hm2]
      clear hm2 hq0 hqa hqb
      have hq2 : m / 8 < sl.length := by rw [hL.out]; omega
      obtain ⟨ad, c10, e, hc⟩ := (Rd.of_own hown9).at8 hq2
      have hf9 := World.ownsRow.frozenAt hown9 (m / 8)
      have hput := hown9.put rfl (m / 8) (flipB sl[m / 8] (m % 8))
      rw [hL.out] at hput
      injection e with e e2 e3
      injection e with e
      subst e
      clear e2 e3
      rw [addr_add_at, Nat.zero_add] at hc
      have hv2 : sl[m / 8].toNat < 256 := sl[m / 8].toNat_lt
      have hne : sl[m / 8] ≠ flipB sl[m / 8] (m % 8) := flipB_ne _ _ (by omega)
      have hO : Hid (decP (sl.set (m / 8) (flipB sl[m / 8] (m % 8))) = (zeroNd, 4)) := by
        have hS := hsl.out
        subst hS
        exact dec_flip n (m / 8) hq2 _ hne
      unfold flipB at hO hput
      unfold bv at hc hput
      rw [ofNat_toNat8 _ (xor_lt8 _ _ hv2 (by omega))] at hput
      have hlen : Hid ((sl.set (m / 8) (UInt8.ofNat (sl[m / 8].toNat ^^^ 2 ^ (m % 8)))).length = 64) := by show _ = _; rw [List.length_set, hL.out]
      generalize sl.set (m / 8) (UInt8.ofNat (sl[m / 8].toNat ^^^ 2 ^ (m % 8))) = us at *
      obtain ⟨r, hr⟩ : ∃ r, r = m % 8 := ⟨_, rfl⟩
      have hr8 : r < 8 := by omega
      have hre : (m : Int) % 8 = (r : Int) := by omega
      rw [← hr] at hput
      generalize sl[m / 8].toNat = v at *
      obtain ⟨q, hq1⟩ : ∃ q, q = m / 8 := ⟨_, rfl⟩
      rw [← hq1] at hc hput hf9
      have hqe : (m : Int) / 8 = (q : Int) := by omega
      have hqL : q < 64 := by omega
      clear hq1 hr hne hq2
      have hsh := pow8_wrap r hr8
      obtain ⟨y, hy⟩ : ∃ y, y = v ^^^ 2 ^ r := ⟨_, rfl⟩
      have hor2 : bits .xor .u8 (v : Int) (2 ^ r) = (y : Int) := by
        rw [pow_cast, bits_xor_u8 _ _ hv2 (pow8_lt r hr8), hy]
      rw [← hy] at hput
      clear hy
      have hbb0 : Below w2.heap.size w2 (w9.setCell ⟨g9, q, none⟩ (.int .u8 (y : Int))) := hB9.setCell (p := ⟨g9, q, none⟩) (hfr g9 rfl) _
      have hbb : Hid (Below w.heap.size w (w9.setCell ⟨g9, q, none⟩ (.int .u8 (y : Int)))) := hBh.out.trans (hbb0.mono hBh.out.size)
      have hxS : Hid (Rd (w9.setCell ⟨g9, q, none⟩ (.int .u8 (y : Int))) (.slice (some ⟨gx, 0, none⟩) 64 cx) (bvs sl)) := R2.out.below hbb0
      have HOp := Decode_calls (w9.setCell ⟨g9, q, none⟩ (.int .u8 (y : Int))) _ us (Rd.of_own hput) (by have := hlen.out; omega)
      rw [hO.out] at HOp
      have HOp := Lib.hid HOp
      clear hput hbb0 R2 R2a hHB9
      go_wp2_with fail
      generalize w9.setCell ⟨g9, q, none⟩ (.int .u8 (y : Int)) = wS at *
      clear hc hf9 hown9 hfr hB9
      refine HOp.out.mono ?_
      rintro e w10 ⟨rfl, hB10⟩
      have hB10' := Lib.hid (hbb.out.trans (hB10.mono hbb.out.size))
      have hx10 := hxS.out.below hB10
      simp only [zeroNd, Nd.cells]
      have hlq : ((sl.take q).length) < 64 := by rw [List.length_take]; omega
      have hT := rd_takec (hx10.alloc (.cells zeroNd.cells 65)) (n := q) (by have := hL.out; omega)
      have HD2 := Decode_calls _ _ _ hT (by omega)
      rw [dec_short _ hlq] at HD2
      have HD2 := Lib.hid HD2
      have hb10 := Lib.hid (Blk.new w10 65 zeroNd.cells)
      have hx10 := Lib.hid (hx10.alloc (.cells zeroNd.cells 65))
      have hB11 := Lib.hid (hB10'.out.alloc hB10'.out.size (.cells zeroNd.cells 65))
      clear HOp hO hxS hbb hB10 hT hlq hB10'
      obtain ⟨w11, hw11⟩ : ∃ w11, w11 = w10.alloc (.cells zeroNd.cells 65) := ⟨_, rfl⟩
      rw [← hw11] at HD2 hb10 hx10 hB11
      unfold zeroNd Nd.cells at hw11
      simp only at hw11
      generalize hg10 : w10.heap.size = g10 at *
      go_wp2_with fail
      rw [← hw11]
      clear hw11
      refine HD2.out.mono ?_
      rintro e w12 ⟨rfl, hB12⟩
      have hB12' : Below w.heap.size w (w12.alloc (.cells zeroNd.cells 65)) := by
        have h := hB11.out.trans (hB12.mono hB11.out.size)
        exact h.alloc h.size _
      have hb10b := Lib.hid ((hb10.out.chg (Chg.of_below hB12) (S := fun _ => False) id).alloc (.cells zeroNd.cells 65))
      have hb12 := Lib.hid (Blk.new w12 65 zeroNd.cells)
      have hx12 := (hx10.out.below hB12).alloc (.cells zeroNd.cells 65)
      have hx12a := Lib.hid (hx12.alloc (.cells #[] 5))
      have hB12' := Lib.hid hB12'
      clear HD2 hb10 hx10 hB11 hB12 hx12
      simp only [zeroNd, Nd.cells]
      obtain ⟨w13, hw13⟩ : ∃ w13, w13 = w12.alloc (.cells zeroNd.cells 65) := ⟨_, rfl⟩
      rw [← hw13] at hb10b hb12 hx12a hB12'
      unfold zeroNd Nd.cells at hw13
      simp only at hw13
      generalize hg12 : w12.heap.size = g12 at *
      go_wp2_with (at_builtin; refine stop_app rfl ?_)
      rw [← hw13]
      have hsz13 : w13.heap.size = g12 + 1 := by rw [hw13]; simp [hg12]
      rw [← hsz13]
      clear hsz13 hw13
      refine Stop.mk (wpList_app _ rfl rfl (us := bvs sl) (base := 0) Try.underlying28 hi hz0 hz1 hz2 rfl (World.ownsRow_made w13 #[] 0 (Nat.zero_le _) (by unfold maxLen; omega) rfl) rfl hx12a.out rfl (bvs_one _) ?_ ?_ (Nat.zero_le _) ?_)
      · have := hL.out; unfold maxLen; simp only [bvs_length]; omega
      · have := hL.out; simp only [bvs_length]; omega
      intro v14 w14 hown hg hat
      obtain ⟨hown14, hB14, hfr14⟩ := fresh_app hown hg hat
      clear hown hg hat
      have hB14' := Lib.hid (hB12'.out.trans (hB14.mono hB12'.out.size))
      have hb10c := Lib.hid (hb10b.out.chg (Chg.of_below hB14) (S := fun _ => False) id)
      have hb12c := Lib.hid (hb12.out.chg (Chg.of_below hB14) (S := fun _ => False) id)
      have hy14 : Hid (Rd w14 (.slice A more.length c) (bvs more)) := hy0.below hB14'.out
      obtain ⟨A14, c14, rfl⟩ := hown14.shape
      rw [hL.out]
      have hown14h : Hid (w14.ownsRow 0 5 1 (.slice A14 64 c14) 64 (bvs sl)) := by
        have := hown14
        unfold Own8 at this
        rw [hL.out] at this
        exact this
      have hfr14h := Lib.hid hfr14
      have hlow : Hid (g10 < w13.heap.size ∧ g12 < w13.heap.size ∧ w.heap.size ≤ w13.heap.size) := ⟨hb10b.out.lt, hb12.out.lt, hB12'.out.size⟩
      clear hb10b hb12 hx12a hB12' hown14 hB14 hfr14
      go_wp2_with (at_builtin; refine stop_app rfl ?_)
      refine Stop.mk (wpList_app _ rfl rfl (us := bvs more) (base := 0) Try.underlying28 hi hz0 hz1 hz2 rfl hown14h.out rfl hy14.out rfl (bvs_one _) ?_ ?_ (Nat.zero_le _) ?_)
      · unfold maxLen; simp only [bvs_length]; omega
      · simp only [bvs_length]; omega
      intro v15 w15 hown hg hat
      have ho15 : Own8 w15 v15 (sl ++ more) := by
        unfold Own8
        rw [List.length_append, hL.out, bvs_append]
        simpa [bvs_length] using hown
      have hb10d := Lib.hid (hb10c.out.grown hg (fun e => by have := hfr14h.out g10 (by rw [hL.out]; exact e.symm); have := hlow.out.1; omega))
      have hb12d := Lib.hid (hb12c.out.grown hg (fun e => by have := hfr14h.out g12 (by rw [hL.out]; exact e.symm); have := hlow.out.2.1; omega))
      have hB15 := Lib.hid (hB14'.out.grown hg hB14'.out.size (fun k hk => Nat.le_trans hlow.out.2.2 (hfr14h.out k (by rw [hL.out]; exact hk))))
      obtain ⟨o, ho⟩ : ∃ o, Hid (decP (sl ++ more) = o) := ⟨_, rfl⟩
      have HD3 := Decode_calls w15 v15 (sl ++ more) (Rd.of_own ho15) (by rw [List.length_append, hL.out]; omega)
      rw [ho.out] at HD3
      have HD3 := Lib.hid HD3
      have hov : Hid (more.length ≠ 0 → o.2 = 5) := by
        intro hne
        rw [← ho.out, dec_long _ (by rw [List.length_append, hL.out]; omega)]
      clear hown hg hat ho15 hb10c hb12c hy14 hown14h hfr14h hlow hB14' ho
      obtain ⟨o1, o2⟩ := o
      simp only at hov
      go_wp2_with fail
      refine HD3.out.mono ?_
      rintro e w16 ⟨rfl, hB16⟩
      have hb10e := (hb10d.out.chg (Chg.of_below hB16) (S := fun _ => False) id).alloc (.cells o1.cells 65)
      have hb12e := (hb12d.out.chg (Chg.of_below hB16) (S := fun _ => False) id).alloc (.cells o1.cells 65)
      have hBF : Hid (Below w.heap.size w (w16.alloc (.cells o1.cells 65))) := by
        have h := hB15.out.trans (hB16.mono hB15.out.size)
        exact h.alloc h.size _
      simp only [Nd.cells]
      unfold zeroNd Nd.cells at hb10e hb12e
      unfold Nd.cells at hBF
      simp only at hb10e hb12e
      clear HD3 hb10d hb12d hB15 hB16
      have a0 := hb10e.cell 0; have a1 := hb10e.cell 1; have a2 := hb10e.cell 2; have a3 := hb10e.cell 3; have a4 := hb10e.cell 4; have a5 := hb10e.cell 5; have a6 := hb10e.cell 6; have a7 := hb10e.cell 7; have a8 := hb10e.cell 8; have a9 := hb10e.cell 9; have a10 := hb10e.cell 10; have a11 := hb10e.cell 11; have a12 := hb10e.cell 12
      have b0 := hb12e.cell 0; have b1 := hb12e.cell 1; have b2 := hb12e.cell 2; have b3 := hb12e.cell 3; have b4 := hb12e.cell 4; have b5 := hb12e.cell 5; have b6 := hb12e.cell 6; have b7 := hb12e.cell 7; have b8 := hb12e.cell 8; have b9 := hb12e.cell 9; have b10 := hb12e.cell 10; have b11 := hb12e.cell 11; have b12 := hb12e.cell 12
      clear hb10e hb12e
      have he8 := fun W => eq8z W
      by_cases hml : more.length = 0
      · have hml2 : (more.length : Int) = 0 := by omega
        clear hov
        go_wp2
        go_ret
        exact ⟨rfl, hBF.out⟩
      · have ho5 : o2 = 5 := hov.out hml
        subst ho5
        have hml2 : ((more.length : Int) == 0) = false := beq_eq_false_iff_ne.2 (by omega)
        clear hov
        go_wp2
        go_ret
        exact ⟨rfl, hBF.out⟩
  · go_enter Try.func9, Try.ntmps9
    go_wp2_with fail
    refine (iknown_calls _).mono ?_
    rintro e w1 ⟨rfl, hB1⟩
    have hB1 : Below wb.heap.size wb w1 := by rw [hwq]; exact hB1
    have hB2 := hwb.trans (hB1.mono hwb.size)
    clear hwq hB1
    go_wp2
    go_ret
    exact ⟨rfl, hB2⟩
end Go.Proofs.Ytdlfaoggjimbpaa
