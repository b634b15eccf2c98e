/- WalReopens, walked. Printed by genre.py. -/
import Derived.Test.YtlfbfmeppcicnaaWle
namespace Go.Proofs.Ytlfbfmeppcicnaa
open Go.RowKit
/-- A slice of slices of whole numbers. -/
def RdI (w : World) (v : Value) (ys : List (Value × List Int)) : Prop := Rd w v (ys.map (·.1)) ∧ ∀ p ∈ ys, Rd w p.1 (ivs p.2)
set_option maxRecDepth 100000 in
set_option maxHeartbeats 16000000 in
theorem WalReopens_calls (w : World) {x0 x1 x2 : Value} {ys : List Int} {bs : List UInt8} {cs : List (Value × List Int)} (xx0 : Rd w x0 (ys.map (Value.int .i64))) (ll0 : ys.length ≤ 9223372036854775807) (ww0 : ∀ n ∈ ys, (Lit.int .i64 n).wf = true)
    (xx1 : Rd w x1 (bvs bs)) (ll1 : bs.length ≤ 9223372036854775807) (xx2 : RdI w x2 cs) (ll2 : cs.length ≤ 9223372036854775807) :
    Calls Try.prog 4 #[x0, x1, x2] w fun e w' => e = .returned (.bool true) ∧ Below w.heap.size w w' := by
  obtain ⟨i0, hi, hz0, hz1, hz2⟩ := info_parts Try.info_u8
  obtain ⟨j0, kj, kz0, kz1, kz2⟩ := info_parts Try.info_str
  obtain ⟨xA, xc, rfl⟩ : ∃ A c, x0 = .slice A ys.length c := by
    obtain ⟨A, c, rfl, _⟩ := xx0
    exact ⟨A, c, by simp⟩
  obtain ⟨yA, yc, rfl⟩ := xx1.shape8
  obtain ⟨zA, zc, rfl⟩ : ∃ A c, x2 = .slice A cs.length c := by
    obtain ⟨A, c, rfl, _⟩ := xx2.1
    exact ⟨A, c, by simp⟩
  have hx0 := Lib.hid xx0
  have hx1 := Lib.hid xx1
  have hx2 := Lib.hid xx2
  have hN : Hid (65 < 135 ∧ 135 ≤ 16000) := ⟨by omega, by omega⟩
  obtain ⟨L, hL⟩ : ∃ L, Hid (ys.length = L) := ⟨_, Lib.hid rfl⟩
  obtain ⟨Q, hQ⟩ : ∃ L, Hid (bs.length = L) := ⟨_, Lib.hid rfl⟩
  obtain ⟨R, hR⟩ : ∃ L, Hid (cs.length = L) := ⟨_, Lib.hid rfl⟩
  rw [hL.out] at hx0 ll0 ⊢
  rw [hQ.out] at hx1 ll1 ⊢
  rw [hR.out] at hx2 ll2 ⊢
  clear xx0 ww0 xx1 xx2
  go_enter Try.func4, Try.ntmps4
  go_wp2_with fail
  refine (known_calls w).mono ?_
  rintro e w1 ⟨rfl, hB1⟩
  have hB1h := Lib.hid hB1
  clear hB1
  by_cases h40 : 40 < L
  · have h40' : (40 : Int) < (L : Int) := by omega
    go_wp2
    go_ret
    exact ⟨rfl, hB1h.out⟩
  have h40' : ¬ (40 : Int) < (L : Int) := by omega
  by_cases h64 : 64 < Q
  · have h64' : (64 : Int) < (Q : Int) := by omega
    go_wp2
    go_ret
    exact ⟨rfl, hB1h.out⟩
  have h64' : ¬ (64 : Int) < (Q : Int) := by omega
  by_cases h6 : 6 < R
  · have h6' : (6 : Int) < (R : Int) := by omega
    go_wp2
    go_ret
    exact ⟨rfl, hB1h.out⟩
  have h6' : ¬ (6 : Int) < (R : Int) := by omega
  go_wp2_with fail
  refine (begun_calls w1).mono ?_
  rintro e w2 ⟨gl, g, d, rfl, hl⟩
  have hBg := Lib.hid (cBegin hl rfl)
  clear hl
  go_wp2_with fail
  refine hBg.out.mono ?_
  rintro e w3 ⟨gt, rfl, ht, _⟩
  have ht := Lib.hid ht
  clear hBg
  obtain ⟨xq, hxq⟩ : ∃ xq : Lk, Hid (xq = ⟨(freshK d).d, (freshK d).wt, (freshK d).pn, true⟩) := ⟨_, Lib.hid rfl⟩
  rw [← hxq.out] at ht
  obtain ⟨V, hV⟩ : ∃ V, Hid (V = fmtV) := ⟨_, Lib.hid rfl⟩
  rw [← hV.out] at ht
  go_wp2
  go_loopw [11] (fun iv wr => ∃ (i : Nat) (t : Tk), i ≤ L ∧ iv = .int .i64 (i : Int) ∧ Hid (LT w1 wr gl g gt 135 xq V t fun _ => False) ∧ Hid (t.ov = false)) (fun iv _ => L - (RowKit.intOf iv).toNat)
  case atStart => exact ⟨0, _, Nat.zero_le _, rfl, ht, rfl⟩
  case round =>
    obtain ⟨i, t, hi2, rfl, hT, hov⟩ := hrel
    clear ht
    have hBw := Lib.hid (hB1h.out.trans (hT.out.bel.mono hB1h.out.size))
    by_cases hiL : i < L
    · have hil : i < ys.length := by rw [hL.out]; exact hiL
      have hat := Lib.hid (fun W (hW : Below w.heap.size w W) => (hx0.out.below hW).intAtK hil)
      obtain ⟨ad, rfl, hc⟩ := (hx0.out.below hBw.out).intAtK hil
      obtain ⟨n0, hn0⟩ : ∃ n, Hid (ys[i]'hil = n) := ⟨_, Lib.hid rfl⟩
      rw [hn0.out] at hc hat
      have hmask : bits .and .i64 n0 63 = n0 % 64 := and_mask n0 6 (by decide)
      obtain ⟨k, hk⟩ : ∃ k : Nat, (k : Int) = n0 % 64 := ⟨(n0 % 64).toNat, by omega⟩
      rw [← hk] at hmask
      have hk64 : k < 64 := by omega
      have hcv := wrap_u8 (show i < 256 by omega)
      have hiL' : (i : Int) < (L : Int) := by omega
      replace hk := Lib.hid hk
      go_wp2_with fail
      refine wp_mixs (fun W => Below w.heap.size w W) [8, 10, 11, 12] (by kernel_rfl) (by kernel_rfl) (by kernel_rfl) (by decide) (hBw.out.trans ((Below.refl _ _).drew)) ?_
      iterate 8 ((first | refine mixsq rfl rfl 0 (by decide +kernel) ?_ (fun w' hw' => Or.inl ?_) (fun K hK => ?_) | refine mixsq rfl rfl 1 (by decide +kernel) ?_ (fun w' hw' => Or.inl ?_) (fun K hK => ?_) | refine mixsq rfl rfl 2 (by decide +kernel) ?_ (fun w' hw' => Or.inl ?_) (fun K hK => ?_) | refine mixsq rfl rfl 3 (by decide +kernel) ?_ (fun w' hw' => Or.inl ?_) (fun K hK => ?_) | refine mixsq rfl rfl 4 (by decide +kernel) ?_ (fun w' hw' => Or.inl ?_) (fun K hK => ?_) | refine mixsq rfl rfl 5 (by decide +kernel) ?_ (fun w' hw' => Or.inl ?_) (fun K hK => ?_) | refine mixsq rfl rfl 6 (by decide +kernel) ?_ (fun w' hw' => Or.inl ?_) (fun K hK => ?_) | refine mixsq rfl rfl 7 (by decide +kernel) ?_ (fun w' hw' => Or.inl ?_) (fun K hK => ?_)); rotate_left; (focus (have hb : Below w.heap.size w w' := hw'; have c1 := (by obtain ⟨a2, e2, z2⟩ := hat.out w' hb; cases e2; exact z2 : w'.cell? (ad.add i) = some (.int .i64 n0)); go_simp; rfl)); go_simp; refine hK _ ?_; clear hK K)
      refine mixsl rfl rfl (fun K hK => ?_)
      go_simp
      have b5 : Below wr.heap.size wr (wr.drew.alloc (.cells #[.int .u8 (i : Int)] 5)) := ((Below.refl wr.heap.size wr).drew).alloc (Nat.le_refl _) _
      have b5' := hBw.out.trans (b5.mono hBw.out.size)
      refine hK (fun W => Below w.heap.size w W) _ _ (fun _ => ⟨b5', fun _ => b5'⟩) ?_
      clear hK K
      (first | refine mixsq rfl rfl 0 (by decide +kernel) ?_ (fun w' hw' => Or.inl ?_) (fun K hK => ?_) | refine mixsq rfl rfl 1 (by decide +kernel) ?_ (fun w' hw' => Or.inl ?_) (fun K hK => ?_) | refine mixsq rfl rfl 2 (by decide +kernel) ?_ (fun w' hw' => Or.inl ?_) (fun K hK => ?_) | refine mixsq rfl rfl 3 (by decide +kernel) ?_ (fun w' hw' => Or.inl ?_) (fun K hK => ?_) | refine mixsq rfl rfl 4 (by decide +kernel) ?_ (fun w' hw' => Or.inl ?_) (fun K hK => ?_) | refine mixsq rfl rfl 5 (by decide +kernel) ?_ (fun w' hw' => Or.inl ?_) (fun K hK => ?_) | refine mixsq rfl rfl 6 (by decide +kernel) ?_ (fun w' hw' => Or.inl ?_) (fun K hK => ?_) | refine mixsq rfl rfl 7 (by decide +kernel) ?_ (fun w' hw' => Or.inl ?_) (fun K hK => ?_)); rotate_left; (focus (go_simp; rfl)); go_simp; refine hK _ ?_; clear hK K
      refine mixsl rfl rfl (fun K hK => ?_)
      have hown0 : (wr.drew.alloc (.cells #[.int .u8 (i : Int)] 5)).ownsRow 0 5 1 (.slice (some ⟨wr.drew.heap.size, 0, none⟩) 1 1) 1 [.int .u8 (i : Int)] := own_mkr wr.drew 5 [.int .u8 (i : Int)] 1 rfl (by omega)
      refine wp_app _ rfl Try.underlying32 hi hz0 hz1 hz2 rfl hown0 rfl ((hx1.out.below hBw.out).below b5) rfl (bvs_one _) ?_ ?_ (Nat.zero_le _) ?_
      · unfold maxLen; rw [bvs_length, hQ.out]; omega
      · rw [bvs_length, hQ.out]; omega
      intro v1 w5 hown5 hg5 hat5
      have b6 : Below wr.heap.size wr w5 := b5.grown hg5 b5.size (fun j hj => by
        have hj : wr.drew.heap.size = j := by simpa [Value.ownBlock] using hj
        rw [← hj]
        exact Nat.le_refl _)
      have hr5 : Rd w5 v1 (bvs (UInt8.ofNat i :: bs)) := by
        have := Rd.of_own hown5
        have e : [Value.int .u8 (i : Int)] ++ bvs bs = bvs (UInt8.ofNat i :: bs) := by
          show _ = bv (UInt8.ofNat i) :: bvs bs
          unfold bv
          rw [u8_nat (by omega)]
          rfl
        rw [e] at this
        exact this
      have hFl : (UInt8.ofNat i :: bs).length ≤ 1000000000 := by rw [List.length_cons, hQ.out]; omega
      have b6' := hBw.out.trans (b6.mono hBw.out.size)
      refine hK (fun W => Below w.heap.size w W) _ _ (fun _ => ⟨b6', ext_all (fun _ => b6') b6'⟩) ?_
      clear hK K hown0 hown5 hg5 hat5
      refine mixsl rfl rfl (fun K hK => ?_)
      go_simp
      refine (FullB w5 (UInt8.ofNat i :: bs) v1 hr5 hFl).mono ?_
      rintro e w6 ⟨fA, fc, rfl, hfo, hfb⟩
      have b7 : Below wr.heap.size wr w6 := b6.trans (hfb.mono b6.size)
      have b7' := hBw.out.trans (b7.mono hBw.out.size)
      refine hK (fun W => Below w.heap.size w W) _ _ (fun _ => ⟨b7', ext_all (ext_all (fun _ => b7') b7') b7'⟩) ?_
      clear hK K
      refine mixsl rfl rfl (fun K hK => ?_)
      go_simp
      refine (cWrite (hT.out.below b7) hN.out (k : Int) (by omega) (by omega) _ (fullP (UInt8.ofNat i :: bs)) (Rd.of_own hfo) (by rw [fullP_len]; omega)).mono ?_
      rintro e w7 ⟨rfl, hT7, _⟩
      have hT7 := Lib.hid hT7
      have hov7 : Hid ((twriteP (135 - 65) t (k : Int) (fullP (UInt8.ofNat i :: bs))).2.ov = false) := by
        show _ = _
        unfold twriteP
        dsimp only
        split
        · exact hov.out
        · exact hov.out
      generalize (twriteP (135 - 65) t (k : Int) (fullP (UInt8.ofNat i :: bs))).2 = t7 at *
      have b9 : Below w.heap.size w w7 := hB1h.out.trans (hT7.out.bel.mono hB1h.out.size)
      refine hK (fun W => Below w.heap.size w W) _ _ (fun _ => ⟨b9, ext_all (ext_all (ext_all (fun _ => b9) b9) b9) b9⟩) ?_
      clear hK K
      refine mixs_nil ?_
      clear hr5 hFl hfo hfb b5 b6 b7 hc hat
      generalize (twriteP (135 - 65) t (k : Int) (fullP (UInt8.ofNat i :: bs))).1 = er7
      go_wp2
      go_roundw
      case rel => exact ⟨i + 1, t7, by omega, by go_num, hT7, hov7⟩
      case measure => simp [RowKit.intOf]; omega
    · obtain rfl : i = L := by omega
      have hCm := Lib.hid (cCommit hT.out hN.out hov.out (by rw [hxq.out]; exact ⟨Int.le_refl _, by show (0 : Int) ≤ _; omega⟩))
      clear hT
      go_wp2_with fail
      refine hCm.out.mono ?_
      rintro e w4 ⟨rfl, y, V1, hT, _⟩
      have hSy := Lib.hid (cSync hT.lc hN.out)
      clear hCm hT
      go_wp2_with fail
      refine hSy.out.mono ?_
      rintro e w5 ⟨rfl, d2, V2, ⟨hl, _⟩, _⟩
      obtain ⟨y2, hy2⟩ : ∃ y2 : Lk, Hid (y2 = ⟨d2, fun _ => none, 0, y.op⟩) := ⟨_, Lib.hid rfl⟩
      rw [← hy2.out] at hl
      have hl := Lib.hid hl
      obtain ⟨us, hus⟩ : ∃ us, Hid (us = datL 135 y2 V2) := ⟨_, Lib.hid rfl⟩
      have hul : Hid (us.length = 70) := by show _ = _; rw [hus.out, datL_len]
      clear hSy
      go_wp2
      go_loopw [12, 13] (fun o iv wr => ∃ (n : Nat) (A : Option Addr) (cc : Nat), n ≤ 70 ∧ o = .slice A n cc ∧ iv = .int .i64 (n : Int) ∧ Hid (LC w1 wr gl g 135 y2 V2 fun k => (Value.slice A n cc).ownBlock = some k) ∧ Hid (wr.ownsRow w1.heap.size 9 1 (.slice A n cc) n ((us.take n).map str))) (fun _ iv _ => 70 - (RowKit.intOf iv).toNat)
      case atStart => exact ⟨0, none, 0, by omega, rfl, rfl, hl.out.nilX, World.ownsRow_nil _ _ _ _⟩
      case round =>
        obtain ⟨n, A, cc, hn, rfl, rfl, hlc, hrow⟩ := hrel
        clear hl
        have hBl := Lib.hid (cBlocks hlc.out hN.out)
        go_wp2_with fail
        refine hBl.out.mono ?_
        rintro e w6 ⟨rfl, rfl⟩
        clear hBl
        by_cases hn70 : n < 70
        · have hn70' : (n : Int) < 70 := by omega
          have hR := cRead hlc.out hN.out (n : Int)
          rw [if_neg (by omega), Int.toNat_natCast, hlc.out.la.val (by omega)] at hR
          have h5 := Lib.hid (hlc.out.la.d5 (n := n) (by omega))
          have hun : Hid (us.take (n + 1) = us.take n ++ [datP y2 V2 n]) := by
            show _ = _
            have h1 : n < us.length := by rw [hul.out]; exact hn70
            rw [List.take_succ_eq_append_getElem h1]
            congr 2
            have h2 := datL_at (N := 135) (x := y2) (V := V2) (n := n) (by omega)
            rw [← hus.out, List.getElem?_eq_getElem h1] at h2
            exact Option.some.inj h2
          have hR := Lib.hid hR
          go_wp2_with fail
          refine hR.out.mono ?_
          intro e w6 hr
          obtain ⟨bx, cx, rfl, hx, hxb, _, _⟩ := hr.ok rfl h5.out
          have s1 := run_str (P := Try.prog) w6 32 9 5 _ _ Try.underlying32 Try.underlying5 Try.underlying9 (Rd.of_own hx)
          have hlc6 := hlc.out.below hxb
          have hrow6 : w6.ownsRow w1.heap.size 9 1 (.slice A n cc) n ((us.take n).map str) := own_chgI hrow.out (Chg.of_below hxb) (fun j hj h => (h : False))
          obtain ⟨D, hD⟩ : ∃ D, Hid (datP y2 V2 n = D) := ⟨_, Lib.hid rfl⟩
          rw [hD.out] at s1 hun
          unfold str at s1
          have hba : Below w6.heap.size w6 (w6.alloc (.cells #[.string ⟨D.toArray⟩] 9)) := (Below.refl _ _).alloc (Nat.le_refl _) _
          have hlc7 := hlc6.below hba
          have hrow7 := World.ownsRow.alloc hrow6 (.cells #[.string ⟨D.toArray⟩] 9)
          have hrd7 : Rd (w6.alloc (.cells #[.string ⟨D.toArray⟩] 9)) (.slice (some ⟨w6.heap.size, 0, none⟩) 1 1) [.string ⟨D.toArray⟩] := rd_new w6 [.string ⟨D.toArray⟩] 9 1 rfl
          have hlc7 := Lib.hid hlc7
          have hrow7 := Lib.hid hrow7
          have hrd7 := Lib.hid hrd7
          clear hr hR hx hxb hlc6 hrow6 hba hlc hrow
          go_wp2_with (at_builtin; refine stop_app rfl ?_)
          refine Stop.mk (wpList_app _ rfl rfl (us := [.string ⟨D.toArray⟩]) (base := w1.heap.size) Try.underlying42 kj kz0 kz1 kz2 rfl hrow7.out rfl hrd7.out rfl (by intro u hu; simp at hu; subst hu; rfl) ?_ ?_ ?_ ?_)
          · unfold maxLen; simp only [List.length_cons, List.length_nil]; omega
          · simp only [List.length_cons, List.length_nil]; omega
          · exact hlc7.out.bel.size
          intro v9 w9 hown hg hat
          have hown2 : w9.ownsRow w1.heap.size 9 1 v9 (n + 1) ((us.take (n + 1)).map str) := by
            rw [hun.out, List.map_append]
            exact hown
          have hlc9 := Lib.hid (hlc7.out.app hrow7.out ⟨by decide, by decide⟩ hg hat hown2)
          obtain ⟨A9, c9, rfl⟩ := own_shape hown2
          have hown2 := Lib.hid hown2
          clear hg hat hown hlc7 hrow7 hrd7 s1
          go_wp2
          go_roundw
          case rel => exact ⟨n + 1, A9, c9, by omega, rfl, by go_num, hlc9, hown2⟩
          case measure => simp [RowKit.intOf]; omega
        · obtain rfl : n = 70 := by omega
          have hwant : Hid (Rd wr (.slice A 70 cc) (us.map str)) := by
            have := Rd.of_own hrow.out
            rwa [← hul.out, List.take_length, hul.out] at this
          have hV20 := Lib.hid hlc.out.la.h0
          have hdc := Lib.hid hlc.out.dc
          have hdat : Hid (∀ d', datL 135 (freshK d') V2 = us) := fun d' => by rw [hus.out, hy2.out]; rfl
          obtain ⟨dq, hdq⟩ : ∃ d, Hid (y2.d = d) := ⟨_, Lib.hid rfl⟩
          rw [hdq.out] at hdc
          clear hlc hrow
          go_wp2
          go_loopw [16] (fun iv wr => ∃ (m : Nat) (dk : Dk), m ≤ R ∧ iv = .int .i64 (m : Int) ∧ Hid (DC w1 wr g 135 dk V2 fun k => (Value.slice A 70 cc).ownBlock = some k) ∧ Hid (Rd wr (.slice A 70 cc) (us.map str))) (fun iv _ => R - (RowKit.intOf iv).toNat)
          case atStart => exact ⟨0, dq, Nat.zero_le _, rfl, hdc, hwant⟩
          case round =>
            obtain ⟨m, dk, hm, rfl, hD, hW⟩ := hrel
            clear hdc hwant
            have hBm := Lib.hid (hB1h.out.trans (hD.out.bel.mono hB1h.out.size))
            by_cases hmR : m < R
            · have hml : m < cs.length := by rw [hR.out]; exact hmR
              have hcs := hx2.out
              obtain ⟨hc1, hc2⟩ := hcs
              obtain ⟨ad, c', e, hcell⟩ := (hc1.below hBm.out).cell (j := m) (by simpa using hml)
              injection e with e1 e2 e3
              clear e2
              subst e1
              subst e3
              have hpk := hc2 (cs[m]'hml) (List.getElem_mem hml)
              rw [List.getElem_map] at hcell
              obtain ⟨⟨pv, pk⟩, hpp⟩ : ∃ p, cs[m]'hml = p := ⟨_, rfl⟩
              rw [hpp] at hcell hpk
              dsimp only at hcell hpk
              obtain ⟨pA, pc, rfl⟩ := hpk.shapeI
              have hpl : (ivs pk).length = pk.length := by simp [ivs]
              rw [hpl] at hcell hpk
              have hpkm := hpk.below hBm.out
              obtain ⟨pn, hpn⟩ : ∃ n, Hid (pk.length = n) := ⟨_, Lib.hid rfl⟩
              rw [hpn.out] at hcell hpkm hpk
              have hmR' : (m : Int) < (R : Int) := by omega
              by_cases h100 : 100 < pn
              · have h100' : (100 : Int) < (pn : Int) := by omega
                clear hD hW hc1 hc2 hpk hpkm hpp hpl
                go_wp2
                go_ret
                exact ⟨rfl, hBm.out⟩
              · have h100' : ¬ (100 : Int) < (pn : Int) := by omega
                have hCt := Lib.hid (cCut hD.out (by omega) (.slice pA pn pc) pk hpkm (fun hne j hj => Nat.lt_of_lt_of_le (hpk.inW (by
                  intro e
                  apply hne
                  cases pk with
                  | nil => rfl
                  | cons a b => simp [ivs] at e) j hj) hB1h.out.size) (by rw [hpn.out]; omega))
                clear hD hc1 hc2 hpk hpkm hpp hpl
                go_wp2_with fail
                refine hCt.out.mono ?_
                rintro e w6 ⟨rfl, hdo, hk6⟩
                have hW := Lib.hid (hW.out.keepX hk6)
                have hOn := Lib.hid (cOn hdo)
                clear hCt hdo hk6
                go_wp2_with fail
                refine hOn.out.mono ?_
                rintro e w7 ⟨rfl, hdc, hk7⟩
                have hW := Lib.hid (hW.out.keepX hk7)
                have hOp := Lib.hid (cOpen hdc hN.out hV20.out)
                clear hOn hdc hk7
                go_wp2_with fail
                refine hOp.out.mono ?_
                rintro e w8 ⟨gl2, rfl, hlc, hk8⟩
                have hW := hW.out.keepX hk8
                have hAl := all_callsL hlc hN.out (.slice A 70 cc) us hW (by rw [hul.out]; omega)
                rw [hdat.out, decide_eq_true rfl] at hAl
                have hAl := Lib.hid hAl
                have hW := Lib.hid hW
                have hdc := Lib.hid hlc.dc
                clear hOp hk8 hlc
                go_wp2_with fail
                refine hAl.out.mono ?_
                rintro e w9 ⟨rfl, hb9⟩
                have hW := Lib.hid (hW.out.below hb9)
                have hdc := Lib.hid (hdc.out.below hb9)
                clear hAl hb9
                go_wp2
                go_roundw
                case rel =>
                  exact ⟨m + 1, _, by omega, by go_num, hdc, hW⟩
                case measure => simp [RowKit.intOf]; omega
            · obtain rfl : m = R := by omega
              clear hD hW
              go_wp2
              go_ret
              exact ⟨rfl, hBm.out⟩
end Go.Proofs.Ytlfbfmeppcicnaa
