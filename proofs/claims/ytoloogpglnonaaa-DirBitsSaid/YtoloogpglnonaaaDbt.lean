/- The walk of DirBits. -/
import Derived.Test.YtoloogpglnonaaaDbp
namespace Go.Proofs.Ytoloogpglnonaaa
open Go.RowKit
set_option maxRecDepth 100000 in
set_option maxHeartbeats 8000000 in
theorem DirBits_calls (w : World) {n0 bit : Int} (ww0 : (Lit.int .i64 n0).wf = true) (ww1 : (Lit.int .i64 bit).wf = true) :
    Calls Try.prog 6 #[.int .i64 n0, .int .i64 bit] w fun e w' => e = .returned (.bool true) ∧ Below w.heap.size w w' := by
  obtain ⟨n1, n2⟩ := wf64 ww0
  obtain ⟨b1, b2⟩ := wf64 ww1
  by_cases hg : n0 < 1
  · go_enter Try.func6, Try.ntmps6
    go_wp2_with fail
    refine (dknown_calls w).mono ?_
    rintro e w1 ⟨rfl, hB1⟩
    go_wp2
    go_ret
    exact ⟨rfl, hB1⟩
  by_cases hg2 : 30 < n0
  · go_enter Try.func6, Try.ntmps6
    go_wp2_with fail
    refine (dknown_calls w).mono ?_
    rintro e w1 ⟨rfl, hB1⟩
    go_wp2
    go_ret
    exact ⟨rfl, hB1⟩
  obtain ⟨N, rfl⟩ : ∃ N : Nat, n0 = (N : Int) := ⟨n0.toNat, by omega⟩
  have hN : N ≤ 30 := by omega
  have hN1 : 1 ≤ N := by omega
  clear hg hg2 n1 n2
  go_enter Try.func6, Try.ntmps6
  go_wp2_with fail
  refine (dknown_calls w).mono ?_
  rintro e w1 ⟨rfl, hB1⟩
  go_wp2
  go_loopw [5, 6] (fun s i wr => ∃ (k : Nat) (v : Value), k ≤ N ∧ i = .int .i64 k ∧ s = v ∧ Hid (RdE wr v (genE k)) ∧ Hid (Below w.heap.size w wr)) (fun _ i _ => N - (intOf i).toNat)
  case atStart => exact ⟨0, _, Nat.zero_le _, rfl, rfl, RdE.nil _, hB1⟩
  case round =>
    obtain ⟨k, s, hk, rfl, hs, hR, hB⟩ := hrel
    have hs := hs.symm
    subst hs
    clear hB1
    by_cases hlt : k < N
    · have hNm := Lib.hid (name_calls wr k (by omega))
      have hPg : Hid (putP (genE k) (nameK k) ((k : Int) + 1) = (genE (k + 1), (dblocks (k + 1) : Int) - (dblocks k : Int), 0)) := put_gen k (by omega)
      generalize (dblocks (k + 1) : Int) - (dblocks k : Int) = dd at *
      go_wp2_with fail
      refine hNm.out.mono ?_
      rintro e w3 ⟨rfl, hB3⟩
      have hB3' := Lib.hid (hB.out.trans (hB3.mono hB.out.size))
      have hP := Put_calls w3 s (genE k) (nameK k) ((k : Int) + 1) (hR.out.below hB3) (by rw [genE_len]; omega) (by rw [nameK_len]; decide)
      rw [hPg.out] at hP
      have hP := Lib.hid hP
      clear hNm hPg hB3 hR hB
      go_wp2_with fail
      refine hP.out.mono ?_
      rintro e w4 ⟨v4, rfl, ho4, hB4, _⟩
      have hB4' := Lib.hid (hB3'.out.trans (hB4.mono hB3'.out.size))
      have hR4 := Lib.hid ho4.rd
      clear hP hB3' ho4 hB4
      go_wp2
      go_roundw
      case rel => exact ⟨k + 1, _, by omega, rfl, rfl, hR4, hB4'⟩
      case measure => simp [intOf]; omega
    · obtain rfl : k = N := by omega
      have hlaw : Hid (∀ j r, (hj : j < (dbytes (genE k)).length) → r < 8 → (readD ((dbytes (genE k)).set j (flipB (dbytes (genE k))[j] r))).1 = [] ∧ (readD ((dbytes (genE k)).set j (flipB (dbytes (genE k))[j] r))).2 ≠ 0) := fun j r hj hr => bits_law k hN j r hj hr
      have hBy := Lib.hid (Bytes_calls wr s (genE k) hR.out (by rw [genE_len]; omega) (genE_short k))
      have hdl : Hid (512 ≤ (dbytes (genE k)).length ∧ (dbytes (genE k)).length ≤ 2048) := by
        show _ ∧ _
        rw [dbytes_len, genE_len]
        unfold dblocks
        omega
      generalize dbytes (genE k) = sl at *
      clear hR
      go_wp2_with fail
      refine hBy.out.mono ?_
      rintro e w5 ⟨r5, rfl, ho5, hB5, hf5⟩
      have hHB9 := Lib.hid (hB.out.trans (hB5.mono hB.out.size))
      have hfr : ∀ j, r5.ownBlock = some j → w.heap.size ≤ j := fun j hj => Nat.le_trans hB.out.size (hf5 j hj)
      clear hBy hB5 hB hf5
      obtain ⟨g9, c9, rfl⟩ := ho5.form (by have := hdl.out; omega)
      obtain ⟨L, hLq⟩ : ∃ L, Hid (L = sl.length) := ⟨_, rfl⟩
      rw [← hLq.out] at hdl ⊢
      obtain ⟨hL0, hL1⟩ := hdl.out
      have hqa : Int.tmod bit (8 * (L : Int)) < 8 * (L : Int) := Int.tmod_lt_of_pos _ (by omega)
      have hqb : -(8 * (L : Int)) < Int.tmod bit (8 * (L : Int)) := Int.lt_tmod_of_pos _ (by omega)
      have h8 : ¬ (8 * (L : Int) = 0) := by omega
      have hm2 : ∃ m : Nat, m < 8 * L ∧ (if Int.tmod bit (8 * (L : Int)) < 0 then Int.tmod bit (8 * (L : Int)) + 8 * (L : Int) else Int.tmod bit (8 * (L : Int))) = (m : Int) := by
        split
        · exact ⟨(Int.tmod bit (8 * (L : Int)) + 8 * (L : Int)).toNat, by omega, by omega⟩
        · exact ⟨(Int.tmod bit (8 * (L : Int))).toNat, by omega, by omega⟩
      obtain ⟨m, hmL, hm2⟩ := hm2
      have hq2 : m / 8 < sl.length := by rw [← hLq.out]; omega
      obtain ⟨ad, c10, e, hc⟩ := (Rd.of_own ho5).at8 hq2
      have hf9 := World.ownsRow.frozenAt ho5 (m / 8)
      have hput := ho5.put rfl (m / 8) (flipB sl[m / 8] (m % 8))
      rw [← hLq.out] at hput
      injection e with e e2 e3
      injection e with e
      subst e
      clear e2 e3
      rw [addr_add_at, Nat.zero_add] at hc
      have hv2 : sl[m / 8].toNat < 256 := sl[m / 8].toNat_lt
      have hO := hlaw.out (m / 8) (m % 8) hq2 (by omega)
      have hO1 := Lib.hid hO.1
      have hO2 := Lib.hid hO.2
      clear hO
      unfold flipB at hO1 hO2 hput
      unfold bv at hc hput
      rw [ofNat_toNat8 _ (xor_lt8 _ _ hv2 (by omega))] at hput
      have hlen : Hid ((sl.set (m / 8) (UInt8.ofNat (sl[m / 8].toNat ^^^ 2 ^ (m % 8)))).length = L) := by show _ = _; rw [List.length_set, hLq.out]
      generalize sl.set (m / 8) (UInt8.ofNat (sl[m / 8].toNat ^^^ 2 ^ (m % 8))) = us at *
      obtain ⟨r, hr⟩ : ∃ r, r = m % 8 := ⟨_, rfl⟩
      have hr8 : r < 8 := by omega
      have hre : (m : Int) % 8 = (r : Int) := by omega
      rw [← hr] at hput
      generalize sl[m / 8].toNat = v at *
      obtain ⟨q, hq1⟩ : ∃ q, q = m / 8 := ⟨_, rfl⟩
      rw [← hq1] at hc hput hf9
      have hqe : (m : Int) / 8 = (q : Int) := by omega
      have hqL : q < L := by rw [hq1]; omega
      have hmm : m < 40000 := by omega
      clear hq1 hr hq2 hlaw ho5
      have hsh := pow8_wrap r hr8
      obtain ⟨y, hy⟩ : ∃ y, y = v ^^^ 2 ^ r := ⟨_, rfl⟩
      have hor2 : bits .xor .u8 (v : Int) (2 ^ r) = (y : Int) := by
        rw [pow_cast, bits_xor_u8 _ _ hv2 (pow8_lt r hr8), hy]
      rw [← hy] at hput
      clear hy
      have hbb : Below w.heap.size w (w5.setCell ⟨g9, q, none⟩ (.int .u8 (y : Int))) := hHB9.out.setCell (p := ⟨g9, q, none⟩) (hfr g9 rfl) _
      have HOp := ReadE_calls (w5.setCell ⟨g9, q, none⟩ (.int .u8 (y : Int))) _ us (Rd.of_own hput) (by have := hlen.out; omega)
      generalize readD us = ro at *
      obtain ⟨re, rer⟩ := ro
      have hO1 : re = [] := hO1.out
      subst hO1
      have hO2b : ((rer : Int) != 0) = true := by simpa using hO2.out
      have HOp := Lib.hid HOp
      clear hput hO2
      by_cases hq0 : Int.tmod bit (8 * (L : Int)) < 0
      · rw [if_pos hq0] at hm2
        go_wp2_with fail
        refine HOp.out.mono ?_
        rintro e w10 ⟨v10, rfl, hov, hB10⟩
        have hbe : Below w.heap.size w w10 := hbb.trans (hB10.mono hbb.size)
        obtain ⟨A10, c11, rfl⟩ := own_shape hov
        simp only [List.length_nil]
        clear HOp hov hB10
        go_wp2
        go_ret
        exact ⟨rfl, hbe⟩
      · rw [if_neg hq0] at hm2
        rw [hm2] at hq0 hqa hqb
        go_wp2_with fail
        refine HOp.out.mono ?_
        rintro e w10 ⟨v10, rfl, hov, hB10⟩
        have hbe : Below w.heap.size w w10 := hbb.trans (hB10.mono hbb.size)
        obtain ⟨A10, c11, rfl⟩ := own_shape hov
        simp only [List.length_nil]
        clear HOp hov hB10
        go_wp2
        go_ret
        exact ⟨rfl, hbe⟩
end Go.Proofs.Ytoloogpglnonaaa
