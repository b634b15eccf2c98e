/- WalRoom, walked. -/
import Derived.Test.YtlfbfmeppcicnaaWlc
namespace Go.Proofs.Ytlfbfmeppcicnaa
open Go.RowKit
set_option maxRecDepth 100000 in
set_option maxHeartbeats 16000000 in
theorem WalRoom_calls (w : World) {x0 : Value} {ys : List Int} {b0 : Int} (xx0 : Rd w x0 (ys.map (Value.int .i64))) (ll0 : ys.length ≤ 9223372036854775807) (ww0 : ∀ n ∈ ys, (Lit.int .i64 n).wf = true) (ww1 : (Lit.int .u8 b0).wf = true) :
    Calls Try.prog 5 #[x0, .int .u8 b0] w fun e w' => e = .returned (.bool true) ∧ Below w.heap.size w w' := by
  obtain ⟨b, rfl⟩ := wf8B ww1
  obtain ⟨xA, xc, rfl⟩ : ∃ A c, x0 = .slice A ys.length c := by
    obtain ⟨A, c, rfl, _⟩ := xx0
    exact ⟨A, c, by simp⟩
  have hx0 := Lib.hid xx0
  have hN : Hid (65 < 135 ∧ 135 ≤ 16000) := ⟨by omega, by omega⟩
  obtain ⟨L, hL⟩ : ∃ L, Hid (ys.length = L) := ⟨_, Lib.hid rfl⟩
  rw [hL.out] at hx0 ll0 ⊢
  clear xx0 ww0 ww1
  go_enter Try.func5, Try.ntmps5
  go_wp2_with fail
  refine (known_calls w).mono ?_
  rintro e w1 ⟨rfl, hB1⟩
  have hB1h := Lib.hid hB1
  clear hB1
  by_cases h100 : 100 < L
  · have h100' : (100 : Int) < (L : Int) := by omega
    go_wp2
    go_ret
    exact ⟨rfl, hB1h.out⟩
  · have h100' : ¬ (100 : Int) < (L : Int) := by omega
    go_wp2_with fail
    refine (begun_calls w1).mono ?_
    rintro e w2 ⟨gl, g, d, rfl, hl⟩
    have hBg := Lib.hid (cBegin hl rfl)
    clear hl
    go_wp2_with fail
    refine hBg.out.mono ?_
    rintro e w3 ⟨gt, rfl, ht, _⟩
    have ht := Lib.hid ht
    clear hBg
    have hRoom := Lib.hid (fun W => LRoom_calls W (.pointer (some ⟨gl, 0, none⟩)))
    obtain ⟨xq, hxq⟩ : ∃ xq : Lk, Hid (xq = ⟨(freshK d).d, (freshK d).wt, (freshK d).pn, true⟩) := ⟨_, Lib.hid rfl⟩
    rw [← hxq.out] at ht
    obtain ⟨V, hV⟩ : ∃ V, Hid (V = fmtV) := ⟨_, Lib.hid rfl⟩
    rw [← hV.out] at ht
    go_wp2
    go_loopw [9] (fun iv wr => ∃ (i : Nat) (t : Tk), i ≤ 63 ∧ iv = .int .i64 (i : Int) ∧ Hid (LT w1 wr gl g gt 135 xq V t fun _ => False) ∧ Hid (TD i t)) (fun iv _ => 63 - (RowKit.intOf iv).toNat)
    case atStart => exact ⟨0, _, by omega, rfl, ht, TD.new⟩
    case round =>
      obtain ⟨i, t, hi, rfl, hT, hD⟩ := hrel
      clear ht
      go_wp2_with fail
      refine (hRoom.out wr).mono ?_
      rintro e w4 ⟨rfl, rfl⟩
      by_cases h63 : i < 63
      · have h63' : (i : Int) < 63 := by omega
        have hF := Lib.hid (FullI wr b)
        go_wp2_with fail
        refine hF.out.mono ?_
        rintro e w4 ⟨fA, fc, rfl, hfo, hfb⟩
        have hW := cWrite (hT.out.below hfb) hN.out (i : Int) (by omega) (by omega) _ (fullP [b]) (Rd.of_own hfo) (by rw [fullP_len]; omega)
        obtain ⟨e1, e2⟩ := hD.out.put h63 (b := fullP [b]) (fullP_len _)
        change Calls _ _ _ _ (fun e w' => e = .returned (.int .i64 (twriteP 70 t (i : Int) (fullP [b])).1) ∧ LT w1 w' gl g gt 135 xq V (twriteP 70 t (i : Int) (fullP [b])).2 (fun _ => False) ∧ _) at hW
        rw [e1] at hW
        generalize (twriteP 70 t (i : Int) (fullP [b])).2 = t2 at *
        have hW := Lib.hid hW
        have e2 := Lib.hid e2
        clear hF hfo hfb e1 hT hD
        go_wp2_with fail
        refine hW.out.mono ?_
        rintro e w5 ⟨rfl, hT, _⟩
        have hT := Lib.hid hT
        clear hW
        go_wp2
        go_roundw
        case rel => exact ⟨i + 1, t2, by omega, by go_num, hT, e2⟩
        case measure => simp [RowKit.intOf]; omega
      · obtain rfl : i = 63 := by omega
        go_wp2
        go_loopw [10] (fun iv wr => ∃ (j : Nat) (t : Tk), j ≤ L ∧ iv = .int .i64 (j : Int) ∧ Hid (LT w1 wr gl g gt 135 xq V t fun _ => False) ∧ Hid (TD 63 t)) (fun iv _ => L - (RowKit.intOf iv).toNat)
        case atStart => exact ⟨0, t, Nat.zero_le _, rfl, hT, hD⟩
        case round =>
          obtain ⟨j, t, hj, rfl, hT, hD⟩ := hrel
          by_cases hjL : j < L
          · have hBw := hB1h.out.trans (hT.out.bel.mono hB1h.out.size)
            obtain ⟨ad, rfl, hc⟩ := (hx0.out.below hBw).intAtK (k := j) (by rw [hL.out]; exact hjL)
            obtain ⟨n0, hn0⟩ : ∃ n, Hid (n = ys[j]'(by rw [hL.out]; exact hjL)) := ⟨_, Lib.hid rfl⟩
            rw [← hn0.out] at hc
            have hmask : bits .and .i64 n0 63 = n0 % 64 := and_mask n0 6 (by decide)
            obtain ⟨k, hk⟩ : ∃ k : Nat, (k : Int) = n0 % 64 := ⟨(n0 % 64).toNat, by omega⟩
            rw [← hk] at hmask
            have hk64 : k < 64 := by omega
            have hj256 : j < 256 := by omega
            have hcv := wrap_u8 hj256
            have hF := FullTwo wr b (UInt8.ofNat j)
            rw [u8_nat hj256] at hF
            have hF := Lib.hid hF
            clear hBw hk
            go_wp2_with fail
            refine hF.out.mono ?_
            rintro e w4 ⟨fA, fc, rfl, hfo, hfb⟩
            have hW := cWrite (hT.out.below hfb) hN.out (k : Int) (by omega) (by omega) _ (fullP [b, UInt8.ofNat j]) (Rd.of_own hfo) (by rw [fullP_len]; omega)
            obtain ⟨e1, e2⟩ := hD.out.again hk64 (b := fullP [b, UInt8.ofNat j]) (fullP_len _)
            change Calls _ _ _ _ (fun e w' => e = .returned (.int .i64 (twriteP 70 t (k : Int) (fullP [b, UInt8.ofNat j])).1) ∧ LT w1 w' gl g gt 135 xq V (twriteP 70 t (k : Int) (fullP [b, UInt8.ofNat j])).2 (fun _ => False) ∧ _) at hW
            rw [e1] at hW
            generalize (twriteP 70 t (k : Int) (fullP [b, UInt8.ofNat j])).2 = t2 at *
            have hW := Lib.hid hW
            have e2 := Lib.hid e2
            clear hF hfo hfb e1 hT hD hc hmask
            by_cases hk63 : k < 63
            · rw [if_pos hk63] at hW
              have hk63' : (k : Int) < 63 := by omega
              go_wp2_with fail
              refine hW.out.mono ?_
              rintro e w5 ⟨rfl, hT, _⟩
              have hT := Lib.hid hT
              clear hW
              go_wp2_with fail
              refine (hRoom.out w5).mono ?_
              rintro e w6 ⟨rfl, rfl⟩
              go_wp2
              go_roundw
              case rel => exact ⟨j + 1, t2, by omega, by go_num, hT, e2⟩
              case measure => simp [RowKit.intOf]; omega
            · rw [if_neg hk63] at hW
              have hk63' : ¬ (k : Int) < 63 := by omega
              go_wp2_with fail
              refine hW.out.mono ?_
              rintro e w5 ⟨rfl, hT, _⟩
              have hT := Lib.hid hT
              clear hW
              go_wp2_with fail
              refine (hRoom.out w5).mono ?_
              rintro e w6 ⟨rfl, rfl⟩
              go_wp2
              go_roundw
              case rel => exact ⟨j + 1, t2, by omega, by go_num, hT, e2⟩
              case measure => simp [RowKit.intOf]; omega
          · obtain rfl : j = L := by omega
            have hWr := cWrites hT.out
            rw [show (ksW (135 - 65) t.m).length = 63 from hD.out.len (by omega)] at hWr
            have hWr := Lib.hid hWr
            go_wp2_with fail
            refine hWr.out.mono ?_
            rintro e w4 ⟨rfl, rfl⟩
            clear hWr
            go_wp2_with fail
            refine (hRoom.out wr).mono ?_
            rintro e w4 ⟨rfl, rfl⟩
            have hF := Lib.hid (Full0 wr)
            go_wp2_with fail
            refine hF.out.mono ?_
            rintro e w4 ⟨fA, fc, rfl, hfo, hfb⟩
            have hW := cWrite (hT.out.below hfb) hN.out 69 (by omega) (by omega) _ zblk (Rd.of_own hfo) (by rw [zblk_len]; omega)
            have e1 : twriteP (135 - 65) t 69 zblk = (7, t) := by
              have hE : twriteE 70 t 69 zblk = 7 := by
                unfold twriteE
                have h2 := hD.out.2 69
                have h3 : fI t.m 69 = none := by
                  show t.m 69 = none
                  cases hm : t.m 69 with
                  | none => rfl
                  | some x => rw [hm] at h2; simp at h2
                rw [if_neg (by rw [zblk_len]; omega), if_neg (by simp [hD.out.1]), if_pos ⟨h3, hD.out.len (by omega)⟩]
              unfold twriteP
              rw [show twriteE (135 - 65) t 69 zblk = 7 from hE]
              rfl
            rw [e1] at hW
            have hW := Lib.hid hW
            clear hF hfo hfb e1 hT
            go_wp2_with fail
            refine hW.out.mono ?_
            rintro e w5 ⟨rfl, hT, _⟩
            have hCm := Lib.hid (cCommit hT hN.out hD.out.1 (by rw [hxq.out]; exact ⟨Int.le_refl _, by show (0 : Int) ≤ _; omega⟩))
            clear hW hT
            go_wp2_with fail
            refine hCm.out.mono ?_
            rintro e w6 ⟨rfl, y, V1, hT, _⟩
            have hSy := Lib.hid (cSync hT.lc hN.out)
            clear hCm hT
            go_wp2_with fail
            refine hSy.out.mono ?_
            rintro e w7 ⟨rfl, d2, V2, ⟨hl, _⟩, _⟩
            have hfin := Lib.hid (hB1h.out.trans (hl.bel.mono hB1h.out.size))
            clear hSy hl
            go_wp2
            go_ret
            exact ⟨rfl, hfin.out⟩
end Go.Proofs.Ytlfbfmeppcicnaa
