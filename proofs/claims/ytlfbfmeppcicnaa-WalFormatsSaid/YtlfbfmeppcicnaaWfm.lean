/- WalFormats, walked. Printed by genwfm.py. -/
import Derived.Test.YtlfbfmeppcicnaaWra
namespace Go.Proofs.Ytlfbfmeppcicnaa
open Go.RowKit
theorem run_slice2 {P : Program} (w : World) (t e : TypeId) (i : TypeInfo) (ht : P.underlying t = some (.slice e)) (hi : P.info? e = some i) (hs : i.size = 1) (A : Option Addr) (len cap l h : Nat) {x y : Int} (hx : x = l) (hy : y = h) (h1 : l ≤ h) (h2 : h ≤ cap) (h4 : l < cap) :
    (Instr.slice t (.slice A len cap) (some (.int .i64 x)) (some (.int .i64 y)) none).run P w = .ok (.slice (A.map (·.add l)) (h - l) (cap - l)) w := by
  subst hx hy
  have b2 : (0 : Int) ≤ (h : Int) ∧ (h : Int) ≤ (cap : Int) := by omega
  have b3 : (0 : Int) ≤ (l : Int) ∧ (l : Int) ≤ (h : Int) := by omega
  have b4 : ¬ (cap = l) := by omega
  simp [Instr.slice, Instr.sliceBounds, Instr.sliceBound, run_underlying ht, sizeOf, typeInfo, hi, hs, asIntOf, h1, h2, b4]
/-- One byte of a slice. -/
theorem Rd.one8 {w : World} {A : Option Addr} {n c : Nat} {bs : List UInt8} (h : Rd w (.slice A n c) (bvs bs)) {k : Nat} (hk : k < bs.length) : ∃ ad, A = some ad ∧ k < c ∧ Rd w (.slice (some (ad.add k)) 1 (c - k)) (bvs [bs[k]]) := by
  have hl : bs.length ≤ c := by
    obtain ⟨A2, c2, e, h1, _⟩ := h
    injection e with _ _ e3
    rw [e3]
    rw [bvs_length] at h1
    exact h1
  obtain ⟨ad, c', e, hc⟩ := h.at8 hk
  injection e with e1 _ _
  refine ⟨ad, e1, by omega, _, _, rfl, by show 1 ≤ c - k; omega, fun _ => ⟨_, rfl, fun j u hu => ?_⟩⟩
  have hj : j = 0 := by have := (List.getElem?_eq_some_iff.1 hu).1; simp [bvs] at this; exact this
  subst hj
  cases hu
  rw [show (ad.add k).add 0 = ad.add k by rw [addr_add_add]; rfl]
  exact hc
theorem formatP_fit {N M : Nat} {d : Dk} (h : Fit N M d) : Fit N (M + 6 * (N + 1)) (formatP d).2 := by
  unfold formatP
  split
  · exact h.mono (by omega)
  · have := Gr.formatW N d.l.length M d h
    rw [h.dl] at this
    rw [h.dl]
    exact this
/-- The transaction has written the bytes ahead of i, one a block. -/
def TB (bs : List UInt8) (i : Nat) (t : Tk) : Prop := ∀ m, t.m m = if m < i then some (fullP [bs.getD m 0]) else none
theorem TB.put {bs : List UInt8} {i : Nat} {t : Tk} (h : TB bs i t) {t' : Tk} (e : ∀ m, t'.m m = if m = i then some (fullP [bs.getD i 0]) else t.m m) : TB bs (i + 1) t' := fun m => by
  rw [e m]
  by_cases e1 : m = i
  · subst e1
    rw [if_pos rfl, if_pos (by omega)]
  · rw [if_neg e1, h m]
    by_cases e2 : m < i
    · rw [if_pos e2, if_pos (by omega)]
    · rw [if_neg e2, if_neg (by omega)]
set_option maxRecDepth 100000 in
set_option maxHeartbeats 16000000 in
theorem WalFormats_calls (w : World) {x0 x2 : Value} {bs : List UInt8} {n1 : Int} {ps : List Int} (xx0 : Rd w x0 (bvs bs)) (ll0 : bs.length ≤ 9223372036854775807) (ww1 : (Lit.int .i64 n1).wf = true)
    (xx2 : Rd w x2 (ps.map (Value.int .i64))) (ll2 : ps.length ≤ 9223372036854775807) (ww2 : ∀ n ∈ ps, (Lit.int .i64 n).wf = true) :
    Calls Try.prog 7 #[x0, .int .i64 n1, x2] w fun e w' => e = .returned (.bool true) ∧ Below w.heap.size w w' := by
  obtain ⟨i0, hi, hz0, hz1, hz2⟩ := info_parts Try.info_u8
  obtain ⟨xA, xc, rfl⟩ := xx0.shape8
  obtain ⟨yA, yc, rfl⟩ : ∃ A c, x2 = .slice A ps.length c := by
    obtain ⟨A, c, rfl, _⟩ := xx2
    exact ⟨A, c, by simp⟩
  have hx0 := Lib.hid xx0
  have hx2 := Lib.hid xx2
  have hN : Hid (65 < 135 ∧ 135 ≤ 16000) := ⟨by omega, by omega⟩
  obtain ⟨Q, hQ⟩ : ∃ L, Hid (bs.length = L) := ⟨_, Lib.hid rfl⟩
  obtain ⟨R, hR⟩ : ∃ L, Hid (ps.length = L) := ⟨_, Lib.hid rfl⟩
  rw [hQ.out] at hx0 ll0 ⊢
  rw [hR.out] at hx2 ll2 ⊢
  obtain ⟨zz, hzz⟩ : ∃ z, Hid (zblk = z) := ⟨_, Lib.hid rfl⟩
  have hz5 : Hid (zz.length = 512) := by show _ = _; rw [← hzz.out, zblk_len]
  have hF0 := Lib.hid (fun W => Full0 W)
  rw [hzz.out] at hF0
  clear xx0 xx2 ww1 ww2
  go_enter Try.func7, Try.ntmps7
  go_wp2_with fail
  refine (known_calls w).mono ?_
  rintro e w1 ⟨rfl, hB1⟩
  have hB1h := Lib.hid hB1
  clear hB1
  by_cases q0 : Q = 0
  · have q0' : ((Q : Int) == 0) = true := beq_iff_eq.2 (by omega)
    go_wp2
    go_ret
    exact ⟨rfl, hB1h.out⟩
  have q0' : ((Q : Int) == 0) = false := beq_eq_false_iff_ne.2 (by omega)
  by_cases q60 : 60 < Q
  · have q60' : (60 : Int) < (Q : Int) := by omega
    go_wp2
    go_ret
    exact ⟨rfl, hB1h.out⟩
  have q60' : ¬ (60 : Int) < (Q : Int) := by omega
  by_cases c0 : n1 < 0
  · go_wp2
    go_ret
    exact ⟨rfl, hB1h.out⟩
  by_cases c5 : 500 < n1
  · go_wp2
    go_ret
    exact ⟨rfl, hB1h.out⟩
  by_cases r1 : 100 < R
  · have r1' : (100 : Int) < (R : Int) := by omega
    go_wp2
    go_ret
    exact ⟨rfl, hB1h.out⟩
  have r1' : ¬ (100 : Int) < (R : Int) := by omega
  go_wp2_with fail
  refine (begun_calls w1).mono ?_
  rintro e w2 ⟨gl, g, d, rfl, hl⟩
  have hBg := Lib.hid (cBegin hl rfl)
  clear hl
  go_wp2_with fail
  refine hBg.out.mono ?_
  rintro e w3 ⟨gt, rfl, ht, _⟩
  clear hBg
  obtain ⟨xq, hxq⟩ : ∃ xq : Lk, Hid (xq = ⟨(freshK d).d, (freshK d).wt, (freshK d).pn, true⟩) := ⟨_, Lib.hid rfl⟩
  rw [← hxq.out] at ht
  obtain ⟨V, hV⟩ : ∃ V, Hid (V = fmtV) := ⟨_, Lib.hid rfl⟩
  rw [← hV.out] at ht
  have hno : Hid (∀ n, datP xq V n = zz) := fun n => by
    rw [hxq.out, hV.out, ← hzz.out]
    show fmtV (65 + n) = zblk
    unfold fmtV
    rw [if_neg (by omega)]
  have ht := Lib.hid ht
  go_wp2
  go_loopw [11] (fun iv wr => ∃ (i : Nat) (t : Tk), i ≤ Q ∧ iv = .int .i64 (i : Int) ∧ Hid (LT w1 wr gl g gt 135 xq V t fun _ => False) ∧ Hid (TR i t) ∧ Hid (TB bs i t)) (fun iv _ => Q - (RowKit.intOf iv).toNat)
  case atStart => exact ⟨0, _, Nat.zero_le _, rfl, ht, TR.new, fun m => by rw [if_neg (by omega)]⟩
  case round =>
    obtain ⟨i, t, hi2, rfl, hT, hD, hTB⟩ := hrel
    clear ht
    have hBw := Lib.hid (hB1h.out.trans (hT.out.bel.mono hB1h.out.size))
    by_cases hiL : i < Q
    · have hil : i < bs.length := by rw [hQ.out]; exact hiL
      obtain ⟨ad, rfl, hxc, hone⟩ := (hx0.out.below hBw.out).one8 hil
      have hsl := run_slice2 (P := Try.prog) wr 32 5 i0 Try.underlying32 hi hz1 (some ad) Q xc i (i + 1) (x := (i : Int)) (y := (i : Int) + 1) rfl (by omega) (by omega) (by omega) hxc
      rw [show i + 1 - i = 1 by omega] at hsl
      have hF := FullB wr [bs[i]'hil] _ hone (by simp)
      obtain ⟨B, hBB⟩ : ∃ B, Hid (fullP [bs[i]'hil] = B) := ⟨_, Lib.hid rfl⟩
      have hB5 : Hid (B.length = 512) := by show _ = _; rw [← hBB.out, fullP_len]
      have hBe : Hid (fullP [bs.getD i 0] = B) := by
        show _ = _
        rw [← hBB.out, List.getD_eq_getElem?_getD, List.getElem?_eq_getElem hil]
        rfl
      rw [hBB.out] at hF
      have hF := Lib.hid hF
      have hiL' : (i : Int) < (Q : Int) := by omega
      obtain ⟨e1, e2, e3⟩ := hD.out.put (n := i) (by omega) (by omega) hB5.out
      have hTB2 := Lib.hid (hTB.out.put (t' := (twriteP 70 t (i : Int) B).2) (by rw [hBe.out]; exact e3))
      generalize ht2 : twriteP 70 t (i : Int) B = p2 at e1 e2 e3 hTB2
      obtain ⟨r2, t2⟩ := p2
      dsimp only at e1 e2 e3 hTB2
      subst e1
      replace ht2 := Lib.hid ht2
      have e2 := Lib.hid e2
      clear e3 hone
      go_wp2_with fail
      refine hF.out.mono ?_
      rintro e w6 ⟨fA, fc, rfl, hfo, hfb⟩
      have hW := cWrite (hT.out.below hfb) hN.out (i : Int) (by omega) (by omega) _ B (Rd.of_own hfo) (by rw [hB5.out]; omega)
      rw [show 135 - 65 = 70 from rfl, ht2.out] at hW
      have hW := Lib.hid hW
      clear hF hfo hfb hT hD hsl
      go_wp2_with fail
      refine hW.out.mono ?_
      rintro e w7 ⟨rfl, hT, _⟩
      have hT := Lib.hid hT
      clear hW
      go_wp2
      go_roundw
      case rel => exact ⟨i + 1, t2, by omega, by go_num, hT, e2, hTB2⟩
      case measure => simp [RowKit.intOf]; omega
    · obtain rfl : i = Q := by omega
      have hCm := Lib.hid (cCommit hT.out hN.out hD.out.ov (by rw [hxq.out]; exact ⟨Int.le_refl _, by show (0 : Int) ≤ _; omega⟩))
      clear hT
      go_wp2_with fail
      refine hCm.out.mono ?_
      rintro e w4 ⟨rfl, y, V1, hT, _, hdv, _⟩
      have hSy := Lib.hid (cSync hT.lc hN.out)
      obtain ⟨E, hE⟩ : ∃ E : Nat → List UInt8, Hid (E = fun n => if n < i then fullP [bs.getD n 0] else zz) := ⟨_, Lib.hid rfl⟩
      have hdat : Hid (∀ n, n < 70 → datP y V1 n = E n) := fun n hn => by
        rw [hdv n hn, hTB.out n, hE.out, hno.out]
        by_cases e : n < i
        · rw [if_pos e]; exact (if_pos e).symm
        · rw [if_neg e]; exact (if_neg e).symm
      clear hCm hT hdv
      go_wp2_with fail
      refine hSy.out.mono ?_
      rintro e w5 ⟨rfl, d2, V2, ⟨hl, _⟩, hv2⟩
      have hHo : Hid (HomeOk 135 V2 E) := ⟨hl.la.h0, fun n hn => (hv2 n hn).trans (hdat.out n hn)⟩
      have hPq := Lib.hid ((Pq.of_vw hl.la.vw hl.la.st).arm n1 ps)
      have hFit : Hid (Fit 135 800000000 (armD d2 n1 ps)) := ⟨hl.la.vw.dl, hl.la.vw.wl, Nat.le_trans hl.la.vw.wt (by omega), by show ps.length ≤ _; rw [hR.out]; omega, by show max n1 0 ≤ _; omega⟩
      have hBw5 := hB1h.out.trans (hl.bel.mono hB1h.out.size)
      have hAr := Lib.hid (gArmD hl.dc.dg n1 (.slice yA R yc) ps (hx2.out.below hBw5) (by rw [hR.out]; omega))
      clear hSy hl hv2 hBw5 hdat hno
      go_wp2_with fail
      refine hAr.out.mono ?_
      rintro e w6 ⟨rfl, hdg, _⟩
      have hft := Lib.hid (formatP_fit hFit.out)
      have hFm := gFormat hdg hFit.out hN.out hft.out.dl
      have hcase := formatP_tr hN.out.1 hHo.out hPq.out
      clear hAr hPq hFit hdg
      change Calls _ _ _ _ _ at hFm
      generalize formatP (armD d2 n1 ps) = fo at hFm hcase hft
      obtain ⟨fe, fd⟩ := fo
      dsimp only at hFm hcase hft
      rcases hcase with ⟨rfl, hP⟩ | ⟨rfl, hP⟩
      · have hFm := Lib.hid hFm
        go_wp2_with fail
        refine hFm.out.mono ?_
        rintro e w7 ⟨⟨v7, rfl⟩, hdg, _⟩
        have hof := gOff hdg
        clear hFm
        rw [hP.of] at hof
        have hCu := Lib.hid (gCut hdg hP.of (by omega) (Nat.le_trans hft.out.wt (by omega)) (.slice yA R yc) ps (hx2.out.below (hB1h.out.trans (hdg.bel.mono hB1h.out.size))) (fun hne j hj => by
          have h1 := hx2.out.inW (fun e => hne (List.map_eq_nil_iff.1 e)) j hj
          exact Nat.lt_of_lt_of_le h1 hB1h.out.size) (by rw [hR.out]; omega))
        have hof := Lib.hid hof
        have hco := Lib.hid (hP.cut_on ps)
        clear hdg hP
        go_wp2_with fail
        refine hof.out.mono ?_
        rintro e w8 ⟨rfl, rfl⟩
        clear hof
        go_wp2_with fail
        refine hCu.out.mono ?_
        rintro e w8 ⟨rfl, hdg, _⟩
        have hOn := Lib.hid (gOn hdg)
        clear hCu hdg
        go_wp2_with fail
        refine hOn.out.mono ?_
        rintro e w9 ⟨rfl, hdg, _⟩
        have hOp := Lib.hid (cOpen (hdg.dc hco.out.1 hco.out.2) hN.out rfl)
        clear hOn hdg
        go_wp2_with fail
        refine hOp.out.mono ?_
        rintro e w10 ⟨gl2, rfl, hlc, _⟩
        clear hOp hco
        generalize onD (cutD fd ps) = dz at hlc
        have hdx : Hid (∀ n, n < 70 → datP (freshK dz) fmtV n = zz) := fun n _ => by
          rw [← hzz.out]
          show fmtV (65 + n) = zblk
          unfold fmtV
          rw [if_neg (by omega)]
        obtain ⟨VF, hVF⟩ : ∃ V, Hid (V = fmtV) := ⟨_, Lib.hid rfl⟩
        rw [← hVF.out] at hlc hdx
        have hlc := Lib.hid hlc
        go_wp2
        go_loopw [17, 18, 19] (fun ev fv jv wr => ∃ (j : Nat) (el fr : Bool), j ≤ 70 ∧ ev = .bool el ∧ fv = .bool fr ∧ jv = .int .i64 (j : Int) ∧ Hid (LC w1 wr gl2 g 135 (freshK dz) VF fun _ => False) ∧ fr = true) (fun _ _ jv _ => 70 - (RowKit.intOf jv).toNat)
        case atStart => exact ⟨0, true, true, by omega, rfl, rfl, rfl, hlc, rfl⟩
        case round =>
          obtain ⟨j, el, fr, hj, rfl, rfl, rfl, hq, hfl⟩ := hrel
          subst hfl
          clear hlc
          by_cases hj70 : j < 70
          · have hj70' : (j : Int) < 70 := by omega
            by_cases hjQ : j < i
            · have hjQ' : (j : Int) < (i : Int) := by omega
              have hjl : j < bs.length := by rw [hQ.out]; exact hjQ
              have hxc : j < xc := by
                obtain ⟨_, _, h, _⟩ := hx0.out.one8 hjl
                exact h
              obtain ⟨ad, hxA⟩ : ∃ ad, xA = some ad := by
                obtain ⟨ad, h, _⟩ := hx0.out.one8 hjl
                exact ⟨ad, h⟩
              subst hxA
              obtain ⟨Y, hBB⟩ : ∃ B, Hid (fullP [bs[j]'hjl] = B) := ⟨_, Lib.hid rfl⟩
              have hY5 : Hid (Y.length = 512) := by show _ = _; rw [← hBB.out, fullP_len]
              have hEj : Hid (E j = Y) := by
                show _ = _
                rw [hE.out, ← hBB.out]
                show (if j < i then fullP [bs.getD j 0] else zz) = _
                rw [if_pos hjQ, List.getD_eq_getElem?_getD, List.getElem?_eq_getElem hjl]
                rfl
              by_cases hYz : Y = zz
              · subst hYz
                have hRd := cRead hq.out hN.out (j : Int)
                rw [if_neg (by omega), Int.toNat_natCast, hq.out.la.val (by omega), hdx.out j hj70] at hRd
                have hRd := Lib.hid hRd
                go_wp2_with fail
                refine hRd.out.mono ?_
                intro e w9 hr
                obtain ⟨bx, cx, rfl, hx, hxb, _, _⟩ := hr.ok rfl hY5.out
                have hxR := Lib.hid (Rd.of_own hx)
                have hq9 := Lib.hid (hq.out.below hxb)
                clear hRd hr hx hxb
                go_wp2_with fail
                refine wp_mixs (fun W => Below w9.heap.size w9 W) [2] (by kernel_rfl) (by kernel_rfl) (by kernel_rfl) (by decide) ((Below.refl _ _).drew) ?_
                iterate 2 ((first | refine mixsq rfl rfl 0 (by decide +kernel) ?_ (fun w' hw' => Or.inl ?_) (fun K hK => ?_) | refine mixsq rfl rfl 1 (by decide +kernel) ?_ (fun w' hw' => Or.inl ?_) (fun K hK => ?_) | refine mixsq rfl rfl 2 (by decide +kernel) ?_ (fun w' hw' => Or.inl ?_) (fun K hK => ?_) | refine mixsq rfl rfl 3 (by decide +kernel) ?_ (fun w' hw' => Or.inl ?_) (fun K hK => ?_) | refine mixsq rfl rfl 4 (by decide +kernel) ?_ (fun w' hw' => Or.inl ?_) (fun K hK => ?_) | refine mixsq rfl rfl 5 (by decide +kernel) ?_ (fun w' hw' => Or.inl ?_) (fun K hK => ?_) | refine mixsq rfl rfl 6 (by decide +kernel) ?_ (fun w' hw' => Or.inl ?_) (fun K hK => ?_) | refine mixsq rfl rfl 7 (by decide +kernel) ?_ (fun w' hw' => Or.inl ?_) (fun K hK => ?_)); rotate_left; (focus (have hb : Below w9.heap.size w9 w' := hw'; have s1 := run_str (P := Try.prog) w' 32 9 5 _ _ Try.underlying32 Try.underlying5 Try.underlying9 (hxR.out.below hb); unfold str at s1; go_simp; rfl)); go_simp; refine hK _ ?_; clear hK K)
                refine mixsl rfl rfl (fun K hK => ?_)
                go_simp
                refine (hF0.out w9.drew).mono ?_
                rintro e w10 ⟨fA, fc, rfl, hfo, hfb⟩
                have b7 : Below w9.heap.size w9 w10 := ⟨hfb.os, hfb.tape, hfb.output, hfb.size, hfb.block⟩
                have r7 := Rd.of_own hfo
                refine hK (fun W => Below w9.heap.size w9 W ∧ Rd W (.slice fA 512 fc) (bvs Y)) _ _ (fun _ => ⟨⟨b7, r7⟩, fun _ => b7⟩) ?_
                clear hK K
                (refine mixsq rfl rfl 1 (by decide +kernel) ?_ (fun w' hw' => Or.inl ?_) (fun K hK => ?_)); rotate_left; (focus (have hb0 : Below w9.heap.size w9 w' ∧ Rd w' (.slice fA 512 fc) (bvs Y) := hw'; have s1 := run_str (P := Try.prog) w' 32 9 5 _ _ Try.underlying32 Try.underlying5 Try.underlying9 hb0.2; unfold str at s1; go_simp; rfl)); go_simp; refine hK _ ?_; clear hK K
                (first | refine mixsq rfl rfl 0 (by decide +kernel) ?_ (fun w' hw' => Or.inl ?_) (fun K hK => ?_) | refine mixsq rfl rfl 1 (by decide +kernel) ?_ (fun w' hw' => Or.inl ?_) (fun K hK => ?_) | refine mixsq rfl rfl 2 (by decide +kernel) ?_ (fun w' hw' => Or.inl ?_) (fun K hK => ?_) | refine mixsq rfl rfl 3 (by decide +kernel) ?_ (fun w' hw' => Or.inl ?_) (fun K hK => ?_) | refine mixsq rfl rfl 4 (by decide +kernel) ?_ (fun w' hw' => Or.inl ?_) (fun K hK => ?_) | refine mixsq rfl rfl 5 (by decide +kernel) ?_ (fun w' hw' => Or.inl ?_) (fun K hK => ?_) | refine mixsq rfl rfl 6 (by decide +kernel) ?_ (fun w' hw' => Or.inl ?_) (fun K hK => ?_) | refine mixsq rfl rfl 7 (by decide +kernel) ?_ (fun w' hw' => Or.inl ?_) (fun K hK => ?_)); rotate_left; (focus (go_simp; rfl)); go_simp; refine hK _ ?_; clear hK K
                refine mixs_nil ?_
                have hxR := Lib.hid (hxR.out.below b7)
                have hq10 := Lib.hid (hq9.out.below b7)
                clear b7 r7 hfo hfb hq9
                have hF2 := Lib.hid (hF0.out w10)
                go_wp2_with fail
                refine hF2.out.mono ?_
                rintro e w11 ⟨hA, hc, rfl, hho, hhb⟩
                have hxR := Lib.hid (hxR.out.below hhb)
                have hq11 := Lib.hid (hq10.out.below hhb)
                have hBw11 := hB1h.out.trans (hq11.out.bel.mono hB1h.out.size)
                obtain ⟨ad2, ead, _, hone⟩ := (hx0.out.below hBw11).one8 hjl
                have hone := hone
                cases ead
                have hsl := run_slice2 (P := Try.prog) w11 32 5 i0 Try.underlying32 hi hz1 (some ad) i xc j (j + 1) (x := (j : Int)) (y := (j : Int) + 1) rfl (by omega) (by omega) (by omega) hxc
                rw [show j + 1 - j = 1 by omega] at hsl
                have hF := FullB w11 [bs[j]'hjl] _ hone (by simp)
                rw [hBB.out] at hF
                have hF := Lib.hid hF
                clear hone hho hhb hF2 hq10 hBw11
                go_wp2_with fail
                refine hF.out.mono ?_
                rintro e w12 ⟨kA, kc, rfl, hko, hkb⟩
                have hxR := hxR.out.below hkb
                have hq12 := Lib.hid (hq11.out.below hkb)
                have s1 := run_str (P := Try.prog) w12 32 9 5 _ _ Try.underlying32 Try.underlying5 Try.underlying9 hxR
                have s2 := run_str (P := Try.prog) w12 32 9 5 _ _ Try.underlying32 Try.underlying5 Try.underlying9 (Rd.of_own hko)
                unfold str at s1 s2
                clear hF hko hkb hxR hsl hq11
                go_wp2
                go_roundw
                case rel => exact ⟨j + 1, _, _, by omega, rfl, rfl, by go_num, hq12, rfl⟩
                case measure => simp [RowKit.intOf]; omega
              · have hne1 := str_beq Y zz
                have hne2 := str_beq zz Y
                rw [decide_eq_false hYz] at hne1
                rw [decide_eq_false (fun e => hYz e.symm)] at hne2
                have hm1 : (Y == zz) = false := beq_eq_false_iff_ne.2 hYz
                have hm2 : (zz == Y) = false := beq_eq_false_iff_ne.2 (fun e => hYz e.symm)
                replace hYz := Lib.hid hYz
                have hRd := cRead hq.out hN.out (j : Int)
                rw [if_neg (by omega), Int.toNat_natCast, hq.out.la.val (by omega), hdx.out j hj70] at hRd
                have hRd := Lib.hid hRd
                go_wp2_with fail
                refine hRd.out.mono ?_
                intro e w9 hr
                obtain ⟨bx, cx, rfl, hx, hxb, _, _⟩ := hr.ok rfl hz5.out
                have hxR := Lib.hid (Rd.of_own hx)
                have hq9 := Lib.hid (hq.out.below hxb)
                clear hRd hr hx hxb
                go_wp2_with fail
                refine wp_mixs (fun W => Below w9.heap.size w9 W) [2] (by kernel_rfl) (by kernel_rfl) (by kernel_rfl) (by decide) ((Below.refl _ _).drew) ?_
                iterate 2 ((first | refine mixsq rfl rfl 0 (by decide +kernel) ?_ (fun w' hw' => Or.inl ?_) (fun K hK => ?_) | refine mixsq rfl rfl 1 (by decide +kernel) ?_ (fun w' hw' => Or.inl ?_) (fun K hK => ?_) | refine mixsq rfl rfl 2 (by decide +kernel) ?_ (fun w' hw' => Or.inl ?_) (fun K hK => ?_) | refine mixsq rfl rfl 3 (by decide +kernel) ?_ (fun w' hw' => Or.inl ?_) (fun K hK => ?_) | refine mixsq rfl rfl 4 (by decide +kernel) ?_ (fun w' hw' => Or.inl ?_) (fun K hK => ?_) | refine mixsq rfl rfl 5 (by decide +kernel) ?_ (fun w' hw' => Or.inl ?_) (fun K hK => ?_) | refine mixsq rfl rfl 6 (by decide +kernel) ?_ (fun w' hw' => Or.inl ?_) (fun K hK => ?_) | refine mixsq rfl rfl 7 (by decide +kernel) ?_ (fun w' hw' => Or.inl ?_) (fun K hK => ?_)); rotate_left; (focus (have hb : Below w9.heap.size w9 w' := hw'; have s1 := run_str (P := Try.prog) w' 32 9 5 _ _ Try.underlying32 Try.underlying5 Try.underlying9 (hxR.out.below hb); unfold str at s1; go_simp; rfl)); go_simp; refine hK _ ?_; clear hK K)
                refine mixsl rfl rfl (fun K hK => ?_)
                go_simp
                refine (hF0.out w9.drew).mono ?_
                rintro e w10 ⟨fA, fc, rfl, hfo, hfb⟩
                have b7 : Below w9.heap.size w9 w10 := ⟨hfb.os, hfb.tape, hfb.output, hfb.size, hfb.block⟩
                have r7 := Rd.of_own hfo
                refine hK (fun W => Below w9.heap.size w9 W ∧ Rd W (.slice fA 512 fc) (bvs zz)) _ _ (fun _ => ⟨⟨b7, r7⟩, fun _ => b7⟩) ?_
                clear hK K
                (refine mixsq rfl rfl 1 (by decide +kernel) ?_ (fun w' hw' => Or.inl ?_) (fun K hK => ?_)); rotate_left; (focus (have hb0 : Below w9.heap.size w9 w' ∧ Rd w' (.slice fA 512 fc) (bvs zz) := hw'; have s1 := run_str (P := Try.prog) w' 32 9 5 _ _ Try.underlying32 Try.underlying5 Try.underlying9 hb0.2; unfold str at s1; go_simp; rfl)); go_simp; refine hK _ ?_; clear hK K
                (first | refine mixsq rfl rfl 0 (by decide +kernel) ?_ (fun w' hw' => Or.inl ?_) (fun K hK => ?_) | refine mixsq rfl rfl 1 (by decide +kernel) ?_ (fun w' hw' => Or.inl ?_) (fun K hK => ?_) | refine mixsq rfl rfl 2 (by decide +kernel) ?_ (fun w' hw' => Or.inl ?_) (fun K hK => ?_) | refine mixsq rfl rfl 3 (by decide +kernel) ?_ (fun w' hw' => Or.inl ?_) (fun K hK => ?_) | refine mixsq rfl rfl 4 (by decide +kernel) ?_ (fun w' hw' => Or.inl ?_) (fun K hK => ?_) | refine mixsq rfl rfl 5 (by decide +kernel) ?_ (fun w' hw' => Or.inl ?_) (fun K hK => ?_) | refine mixsq rfl rfl 6 (by decide +kernel) ?_ (fun w' hw' => Or.inl ?_) (fun K hK => ?_) | refine mixsq rfl rfl 7 (by decide +kernel) ?_ (fun w' hw' => Or.inl ?_) (fun K hK => ?_)); rotate_left; (focus (go_simp; rfl)); go_simp; refine hK _ ?_; clear hK K
                refine mixs_nil ?_
                have hxR := Lib.hid (hxR.out.below b7)
                have hq10 := Lib.hid (hq9.out.below b7)
                clear b7 r7 hfo hfb hq9
                have hF2 := Lib.hid (hF0.out w10)
                go_wp2_with fail
                refine hF2.out.mono ?_
                rintro e w11 ⟨hA, hc, rfl, hho, hhb⟩
                have hxR := Lib.hid (hxR.out.below hhb)
                have hq11 := Lib.hid (hq10.out.below hhb)
                have hBw11 := hB1h.out.trans (hq11.out.bel.mono hB1h.out.size)
                obtain ⟨ad2, ead, _, hone⟩ := (hx0.out.below hBw11).one8 hjl
                have hone := hone
                cases ead
                have hsl := run_slice2 (P := Try.prog) w11 32 5 i0 Try.underlying32 hi hz1 (some ad) i xc j (j + 1) (x := (j : Int)) (y := (j : Int) + 1) rfl (by omega) (by omega) (by omega) hxc
                rw [show j + 1 - j = 1 by omega] at hsl
                have hF := FullB w11 [bs[j]'hjl] _ hone (by simp)
                rw [hBB.out] at hF
                have hF := Lib.hid hF
                clear hone hho hhb hF2 hq10 hBw11
                go_wp2_with fail
                refine hF.out.mono ?_
                rintro e w12 ⟨kA, kc, rfl, hko, hkb⟩
                have hxR := hxR.out.below hkb
                have hq12 := Lib.hid (hq11.out.below hkb)
                have s1 := run_str (P := Try.prog) w12 32 9 5 _ _ Try.underlying32 Try.underlying5 Try.underlying9 hxR
                have s2 := run_str (P := Try.prog) w12 32 9 5 _ _ Try.underlying32 Try.underlying5 Try.underlying9 (Rd.of_own hko)
                unfold str at s1 s2
                clear hF hko hkb hxR hsl hq11
                go_wp2
                go_roundw
                case rel => exact ⟨j + 1, _, _, by omega, rfl, rfl, by go_num, hq12, rfl⟩
                case measure => simp [RowKit.intOf]; omega
            · have hjQ' : ¬ (j : Int) < (i : Int) := by omega
              have hEj : Hid (E j = zz) := by
                show _ = _
                rw [hE.out]
                exact if_neg hjQ
              have hRd := cRead hq.out hN.out (j : Int)
              rw [if_neg (by omega), Int.toNat_natCast, hq.out.la.val (by omega), hdx.out j hj70] at hRd
              have hRd := Lib.hid hRd
              go_wp2_with fail
              refine hRd.out.mono ?_
              intro e w9 hr
              obtain ⟨bx, cx, rfl, hx, hxb, _, _⟩ := hr.ok rfl hz5.out
              have hxR := Lib.hid (Rd.of_own hx)
              have hq9 := Lib.hid (hq.out.below hxb)
              clear hRd hr hx hxb
              go_wp2_with fail
              refine wp_mixs (fun W => Below w9.heap.size w9 W) [2] (by kernel_rfl) (by kernel_rfl) (by kernel_rfl) (by decide) ((Below.refl _ _).drew) ?_
              iterate 2 ((first | refine mixsq rfl rfl 0 (by decide +kernel) ?_ (fun w' hw' => Or.inl ?_) (fun K hK => ?_) | refine mixsq rfl rfl 1 (by decide +kernel) ?_ (fun w' hw' => Or.inl ?_) (fun K hK => ?_) | refine mixsq rfl rfl 2 (by decide +kernel) ?_ (fun w' hw' => Or.inl ?_) (fun K hK => ?_) | refine mixsq rfl rfl 3 (by decide +kernel) ?_ (fun w' hw' => Or.inl ?_) (fun K hK => ?_) | refine mixsq rfl rfl 4 (by decide +kernel) ?_ (fun w' hw' => Or.inl ?_) (fun K hK => ?_) | refine mixsq rfl rfl 5 (by decide +kernel) ?_ (fun w' hw' => Or.inl ?_) (fun K hK => ?_) | refine mixsq rfl rfl 6 (by decide +kernel) ?_ (fun w' hw' => Or.inl ?_) (fun K hK => ?_) | refine mixsq rfl rfl 7 (by decide +kernel) ?_ (fun w' hw' => Or.inl ?_) (fun K hK => ?_)); rotate_left; (focus (have hb : Below w9.heap.size w9 w' := hw'; have s1 := run_str (P := Try.prog) w' 32 9 5 _ _ Try.underlying32 Try.underlying5 Try.underlying9 (hxR.out.below hb); unfold str at s1; go_simp; rfl)); go_simp; refine hK _ ?_; clear hK K)
              refine mixsl rfl rfl (fun K hK => ?_)
              go_simp
              refine (hF0.out w9.drew).mono ?_
              rintro e w10 ⟨fA, fc, rfl, hfo, hfb⟩
              have b7 : Below w9.heap.size w9 w10 := ⟨hfb.os, hfb.tape, hfb.output, hfb.size, hfb.block⟩
              have r7 := Rd.of_own hfo
              refine hK (fun W => Below w9.heap.size w9 W ∧ Rd W (.slice fA 512 fc) (bvs zz)) _ _ (fun _ => ⟨⟨b7, r7⟩, fun _ => b7⟩) ?_
              clear hK K
              (refine mixsq rfl rfl 1 (by decide +kernel) ?_ (fun w' hw' => Or.inl ?_) (fun K hK => ?_)); rotate_left; (focus (have hb0 : Below w9.heap.size w9 w' ∧ Rd w' (.slice fA 512 fc) (bvs zz) := hw'; have s1 := run_str (P := Try.prog) w' 32 9 5 _ _ Try.underlying32 Try.underlying5 Try.underlying9 hb0.2; unfold str at s1; go_simp; rfl)); go_simp; refine hK _ ?_; clear hK K
              (first | refine mixsq rfl rfl 0 (by decide +kernel) ?_ (fun w' hw' => Or.inl ?_) (fun K hK => ?_) | refine mixsq rfl rfl 1 (by decide +kernel) ?_ (fun w' hw' => Or.inl ?_) (fun K hK => ?_) | refine mixsq rfl rfl 2 (by decide +kernel) ?_ (fun w' hw' => Or.inl ?_) (fun K hK => ?_) | refine mixsq rfl rfl 3 (by decide +kernel) ?_ (fun w' hw' => Or.inl ?_) (fun K hK => ?_) | refine mixsq rfl rfl 4 (by decide +kernel) ?_ (fun w' hw' => Or.inl ?_) (fun K hK => ?_) | refine mixsq rfl rfl 5 (by decide +kernel) ?_ (fun w' hw' => Or.inl ?_) (fun K hK => ?_) | refine mixsq rfl rfl 6 (by decide +kernel) ?_ (fun w' hw' => Or.inl ?_) (fun K hK => ?_) | refine mixsq rfl rfl 7 (by decide +kernel) ?_ (fun w' hw' => Or.inl ?_) (fun K hK => ?_)); rotate_left; (focus (go_simp; rfl)); go_simp; refine hK _ ?_; clear hK K
              refine mixs_nil ?_
              have hxR := Lib.hid (hxR.out.below b7)
              have hq10 := Lib.hid (hq9.out.below b7)
              clear b7 r7 hfo hfb hq9
              have hF2 := Lib.hid (hF0.out w10)
              go_wp2_with fail
              refine hF2.out.mono ?_
              rintro e w11 ⟨hA, hc, rfl, hho, hhb⟩
              have hxR := Lib.hid (hxR.out.below hhb)
              have hq11 := Lib.hid (hq10.out.below hhb)
              have hxR := hxR.out
              have s1 := run_str (P := Try.prog) w11 32 9 5 _ _ Try.underlying32 Try.underlying5 Try.underlying9 hxR
              have s2 := run_str (P := Try.prog) w11 32 9 5 _ _ Try.underlying32 Try.underlying5 Try.underlying9 (Rd.of_own hho)
              unfold str at s1 s2
              clear hxR hho hhb hF2 hq10
              go_wp2
              go_roundw
              case rel => exact ⟨j + 1, _, _, by omega, rfl, rfl, by go_num, hq11, rfl⟩
              case measure => simp [RowKit.intOf]; omega
          · have hj7 : j = 70 := by omega
            have e70 : (j : Int) = 70 := by omega
            have hfin := Lib.hid (hB1h.out.trans (hq.out.bel.mono hB1h.out.size))
            clear hq
            cases el
            all_goals
              go_wp2
              go_ret
              exact ⟨rfl, hfin.out⟩
      · have hFm := Lib.hid hFm
        go_wp2_with fail
        refine hFm.out.mono ?_
        rintro e w7 ⟨⟨v7, rfl⟩, hdg, _⟩
        have hof := gOff hdg
        clear hFm
        rw [hP.off] at hof
        have hof := Lib.hid hof
        have hOn := Lib.hid (gOn hdg)
        have hlen := fun n (hn : n < 135) => hdg.len hn
        obtain ⟨L, hL, hVL, hSL⟩ := hP.on_ hlen
        have hVL := Lib.hid hVL
        have hSL := Lib.hid hSL
        clear hdg hP hlen
        go_wp2_with fail
        refine hof.out.mono ?_
        rintro e w8 ⟨rfl, rfl⟩
        clear hof
        go_wp2_with fail
        refine hOn.out.mono ?_
        rintro e w9 ⟨rfl, hdg, _⟩
        have hdc := hdg.dc hVL.out hSL.out
        clear hOn hdg
        rcases hL with hL | hL
        · have hOp := Lib.hid (cOpenRep hdc hN.out hL)
          clear hdc hL
          go_wp2_with fail
          refine hOp.out.mono ?_
          rintro e w10 ⟨dz, VF, hho, gl2, rfl, hlc, _⟩
          clear hOp
          have hdx : Hid (∀ n, n < 70 → datP (freshK dz) VF n = E n) := fun n hn => hho.2 n hn
          have hlc := Lib.hid hlc
          clear hho
          go_wp2
          go_loopw [17, 18, 19] (fun ev fv jv wr => ∃ (j : Nat) (el fr : Bool), j ≤ 70 ∧ ev = .bool el ∧ fv = .bool fr ∧ jv = .int .i64 (j : Int) ∧ Hid (LC w1 wr gl2 g 135 (freshK dz) VF fun _ => False) ∧ el = true) (fun _ _ jv _ => 70 - (RowKit.intOf jv).toNat)
          case atStart => exact ⟨0, true, true, by omega, rfl, rfl, rfl, hlc, rfl⟩
          case round =>
            obtain ⟨j, el, fr, hj, rfl, rfl, rfl, hq, hfl⟩ := hrel
            subst hfl
            clear hlc
            by_cases hj70 : j < 70
            · have hj70' : (j : Int) < 70 := by omega
              by_cases hjQ : j < i
              · have hjQ' : (j : Int) < (i : Int) := by omega
                have hjl : j < bs.length := by rw [hQ.out]; exact hjQ
                have hxc : j < xc := by
                  obtain ⟨_, _, h, _⟩ := hx0.out.one8 hjl
                  exact h
                obtain ⟨ad, hxA⟩ : ∃ ad, xA = some ad := by
                  obtain ⟨ad, h, _⟩ := hx0.out.one8 hjl
                  exact ⟨ad, h⟩
                subst hxA
                obtain ⟨Y, hBB⟩ : ∃ B, Hid (fullP [bs[j]'hjl] = B) := ⟨_, Lib.hid rfl⟩
                have hY5 : Hid (Y.length = 512) := by show _ = _; rw [← hBB.out, fullP_len]
                have hEj : Hid (E j = Y) := by
                  show _ = _
                  rw [hE.out, ← hBB.out]
                  show (if j < i then fullP [bs.getD j 0] else zz) = _
                  rw [if_pos hjQ, List.getD_eq_getElem?_getD, List.getElem?_eq_getElem hjl]
                  rfl
                by_cases hYz : Y = zz
                · subst hYz
                  have hRd := cRead hq.out hN.out (j : Int)
                  rw [if_neg (by omega), Int.toNat_natCast, hq.out.la.val (by omega), hdx.out j hj70, hEj.out] at hRd
                  have hRd := Lib.hid hRd
                  go_wp2_with fail
                  refine hRd.out.mono ?_
                  intro e w9 hr
                  obtain ⟨bx, cx, rfl, hx, hxb, _, _⟩ := hr.ok rfl hY5.out
                  have hxR := Lib.hid (Rd.of_own hx)
                  have hq9 := Lib.hid (hq.out.below hxb)
                  clear hRd hr hx hxb
                  go_wp2_with fail
                  refine wp_mixs (fun W => Below w9.heap.size w9 W) [2] (by kernel_rfl) (by kernel_rfl) (by kernel_rfl) (by decide) ((Below.refl _ _).drew) ?_
                  iterate 2 ((first | refine mixsq rfl rfl 0 (by decide +kernel) ?_ (fun w' hw' => Or.inl ?_) (fun K hK => ?_) | refine mixsq rfl rfl 1 (by decide +kernel) ?_ (fun w' hw' => Or.inl ?_) (fun K hK => ?_) | refine mixsq rfl rfl 2 (by decide +kernel) ?_ (fun w' hw' => Or.inl ?_) (fun K hK => ?_) | refine mixsq rfl rfl 3 (by decide +kernel) ?_ (fun w' hw' => Or.inl ?_) (fun K hK => ?_) | refine mixsq rfl rfl 4 (by decide +kernel) ?_ (fun w' hw' => Or.inl ?_) (fun K hK => ?_) | refine mixsq rfl rfl 5 (by decide +kernel) ?_ (fun w' hw' => Or.inl ?_) (fun K hK => ?_) | refine mixsq rfl rfl 6 (by decide +kernel) ?_ (fun w' hw' => Or.inl ?_) (fun K hK => ?_) | refine mixsq rfl rfl 7 (by decide +kernel) ?_ (fun w' hw' => Or.inl ?_) (fun K hK => ?_)); rotate_left; (focus (have hb : Below w9.heap.size w9 w' := hw'; have s1 := run_str (P := Try.prog) w' 32 9 5 _ _ Try.underlying32 Try.underlying5 Try.underlying9 (hxR.out.below hb); unfold str at s1; go_simp; rfl)); go_simp; refine hK _ ?_; clear hK K)
                  refine mixsl rfl rfl (fun K hK => ?_)
                  go_simp
                  refine (hF0.out w9.drew).mono ?_
                  rintro e w10 ⟨fA, fc, rfl, hfo, hfb⟩
                  have b7 : Below w9.heap.size w9 w10 := ⟨hfb.os, hfb.tape, hfb.output, hfb.size, hfb.block⟩
                  have r7 := Rd.of_own hfo
                  refine hK (fun W => Below w9.heap.size w9 W ∧ Rd W (.slice fA 512 fc) (bvs Y)) _ _ (fun _ => ⟨⟨b7, r7⟩, fun _ => b7⟩) ?_
                  clear hK K
                  (refine mixsq rfl rfl 1 (by decide +kernel) ?_ (fun w' hw' => Or.inl ?_) (fun K hK => ?_)); rotate_left; (focus (have hb0 : Below w9.heap.size w9 w' ∧ Rd w' (.slice fA 512 fc) (bvs Y) := hw'; have s1 := run_str (P := Try.prog) w' 32 9 5 _ _ Try.underlying32 Try.underlying5 Try.underlying9 hb0.2; unfold str at s1; go_simp; rfl)); go_simp; refine hK _ ?_; clear hK K
                  (first | refine mixsq rfl rfl 0 (by decide +kernel) ?_ (fun w' hw' => Or.inl ?_) (fun K hK => ?_) | refine mixsq rfl rfl 1 (by decide +kernel) ?_ (fun w' hw' => Or.inl ?_) (fun K hK => ?_) | refine mixsq rfl rfl 2 (by decide +kernel) ?_ (fun w' hw' => Or.inl ?_) (fun K hK => ?_) | refine mixsq rfl rfl 3 (by decide +kernel) ?_ (fun w' hw' => Or.inl ?_) (fun K hK => ?_) | refine mixsq rfl rfl 4 (by decide +kernel) ?_ (fun w' hw' => Or.inl ?_) (fun K hK => ?_) | refine mixsq rfl rfl 5 (by decide +kernel) ?_ (fun w' hw' => Or.inl ?_) (fun K hK => ?_) | refine mixsq rfl rfl 6 (by decide +kernel) ?_ (fun w' hw' => Or.inl ?_) (fun K hK => ?_) | refine mixsq rfl rfl 7 (by decide +kernel) ?_ (fun w' hw' => Or.inl ?_) (fun K hK => ?_)); rotate_left; (focus (go_simp; rfl)); go_simp; refine hK _ ?_; clear hK K
                  refine mixs_nil ?_
                  have hxR := Lib.hid (hxR.out.below b7)
                  have hq10 := Lib.hid (hq9.out.below b7)
                  clear b7 r7 hfo hfb hq9
                  have hF2 := Lib.hid (hF0.out w10)
                  go_wp2_with fail
                  refine hF2.out.mono ?_
                  rintro e w11 ⟨hA, hc, rfl, hho, hhb⟩
                  have hxR := Lib.hid (hxR.out.below hhb)
                  have hq11 := Lib.hid (hq10.out.below hhb)
                  have hBw11 := hB1h.out.trans (hq11.out.bel.mono hB1h.out.size)
                  obtain ⟨ad2, ead, _, hone⟩ := (hx0.out.below hBw11).one8 hjl
                  have hone := hone
                  cases ead
                  have hsl := run_slice2 (P := Try.prog) w11 32 5 i0 Try.underlying32 hi hz1 (some ad) i xc j (j + 1) (x := (j : Int)) (y := (j : Int) + 1) rfl (by omega) (by omega) (by omega) hxc
                  rw [show j + 1 - j = 1 by omega] at hsl
                  have hF := FullB w11 [bs[j]'hjl] _ hone (by simp)
                  rw [hBB.out] at hF
                  have hF := Lib.hid hF
                  clear hone hho hhb hF2 hq10 hBw11
                  go_wp2_with fail
                  refine hF.out.mono ?_
                  rintro e w12 ⟨kA, kc, rfl, hko, hkb⟩
                  have hxR := hxR.out.below hkb
                  have hq12 := Lib.hid (hq11.out.below hkb)
                  have s1 := run_str (P := Try.prog) w12 32 9 5 _ _ Try.underlying32 Try.underlying5 Try.underlying9 hxR
                  have s2 := run_str (P := Try.prog) w12 32 9 5 _ _ Try.underlying32 Try.underlying5 Try.underlying9 (Rd.of_own hko)
                  unfold str at s1 s2
                  clear hF hko hkb hxR hsl hq11
                  go_wp2
                  go_roundw
                  case rel => exact ⟨j + 1, _, _, by omega, rfl, rfl, by go_num, hq12, rfl⟩
                  case measure => simp [RowKit.intOf]; omega
                · have hne1 := str_beq Y zz
                  have hne2 := str_beq zz Y
                  rw [decide_eq_false hYz] at hne1
                  rw [decide_eq_false (fun e => hYz e.symm)] at hne2
                  have hm1 : (Y == zz) = false := beq_eq_false_iff_ne.2 hYz
                  have hm2 : (zz == Y) = false := beq_eq_false_iff_ne.2 (fun e => hYz e.symm)
                  replace hYz := Lib.hid hYz
                  have hRd := cRead hq.out hN.out (j : Int)
                  rw [if_neg (by omega), Int.toNat_natCast, hq.out.la.val (by omega), hdx.out j hj70, hEj.out] at hRd
                  have hRd := Lib.hid hRd
                  go_wp2_with fail
                  refine hRd.out.mono ?_
                  intro e w9 hr
                  obtain ⟨bx, cx, rfl, hx, hxb, _, _⟩ := hr.ok rfl hY5.out
                  have hxR := Lib.hid (Rd.of_own hx)
                  have hq9 := Lib.hid (hq.out.below hxb)
                  clear hRd hr hx hxb
                  go_wp2_with fail
                  refine wp_mixs (fun W => Below w9.heap.size w9 W) [2] (by kernel_rfl) (by kernel_rfl) (by kernel_rfl) (by decide) ((Below.refl _ _).drew) ?_
                  iterate 2 ((first | refine mixsq rfl rfl 0 (by decide +kernel) ?_ (fun w' hw' => Or.inl ?_) (fun K hK => ?_) | refine mixsq rfl rfl 1 (by decide +kernel) ?_ (fun w' hw' => Or.inl ?_) (fun K hK => ?_) | refine mixsq rfl rfl 2 (by decide +kernel) ?_ (fun w' hw' => Or.inl ?_) (fun K hK => ?_) | refine mixsq rfl rfl 3 (by decide +kernel) ?_ (fun w' hw' => Or.inl ?_) (fun K hK => ?_) | refine mixsq rfl rfl 4 (by decide +kernel) ?_ (fun w' hw' => Or.inl ?_) (fun K hK => ?_) | refine mixsq rfl rfl 5 (by decide +kernel) ?_ (fun w' hw' => Or.inl ?_) (fun K hK => ?_) | refine mixsq rfl rfl 6 (by decide +kernel) ?_ (fun w' hw' => Or.inl ?_) (fun K hK => ?_) | refine mixsq rfl rfl 7 (by decide +kernel) ?_ (fun w' hw' => Or.inl ?_) (fun K hK => ?_)); rotate_left; (focus (have hb : Below w9.heap.size w9 w' := hw'; have s1 := run_str (P := Try.prog) w' 32 9 5 _ _ Try.underlying32 Try.underlying5 Try.underlying9 (hxR.out.below hb); unfold str at s1; go_simp; rfl)); go_simp; refine hK _ ?_; clear hK K)
                  refine mixsl rfl rfl (fun K hK => ?_)
                  go_simp
                  refine (hF0.out w9.drew).mono ?_
                  rintro e w10 ⟨fA, fc, rfl, hfo, hfb⟩
                  have b7 : Below w9.heap.size w9 w10 := ⟨hfb.os, hfb.tape, hfb.output, hfb.size, hfb.block⟩
                  have r7 := Rd.of_own hfo
                  refine hK (fun W => Below w9.heap.size w9 W ∧ Rd W (.slice fA 512 fc) (bvs zz)) _ _ (fun _ => ⟨⟨b7, r7⟩, fun _ => b7⟩) ?_
                  clear hK K
                  (refine mixsq rfl rfl 1 (by decide +kernel) ?_ (fun w' hw' => Or.inl ?_) (fun K hK => ?_)); rotate_left; (focus (have hb0 : Below w9.heap.size w9 w' ∧ Rd w' (.slice fA 512 fc) (bvs zz) := hw'; have s1 := run_str (P := Try.prog) w' 32 9 5 _ _ Try.underlying32 Try.underlying5 Try.underlying9 hb0.2; unfold str at s1; go_simp; rfl)); go_simp; refine hK _ ?_; clear hK K
                  (first | refine mixsq rfl rfl 0 (by decide +kernel) ?_ (fun w' hw' => Or.inl ?_) (fun K hK => ?_) | refine mixsq rfl rfl 1 (by decide +kernel) ?_ (fun w' hw' => Or.inl ?_) (fun K hK => ?_) | refine mixsq rfl rfl 2 (by decide +kernel) ?_ (fun w' hw' => Or.inl ?_) (fun K hK => ?_) | refine mixsq rfl rfl 3 (by decide +kernel) ?_ (fun w' hw' => Or.inl ?_) (fun K hK => ?_) | refine mixsq rfl rfl 4 (by decide +kernel) ?_ (fun w' hw' => Or.inl ?_) (fun K hK => ?_) | refine mixsq rfl rfl 5 (by decide +kernel) ?_ (fun w' hw' => Or.inl ?_) (fun K hK => ?_) | refine mixsq rfl rfl 6 (by decide +kernel) ?_ (fun w' hw' => Or.inl ?_) (fun K hK => ?_) | refine mixsq rfl rfl 7 (by decide +kernel) ?_ (fun w' hw' => Or.inl ?_) (fun K hK => ?_)); rotate_left; (focus (go_simp; rfl)); go_simp; refine hK _ ?_; clear hK K
                  refine mixs_nil ?_
                  have hxR := Lib.hid (hxR.out.below b7)
                  have hq10 := Lib.hid (hq9.out.below b7)
                  clear b7 r7 hfo hfb hq9
                  have hF2 := Lib.hid (hF0.out w10)
                  go_wp2_with fail
                  refine hF2.out.mono ?_
                  rintro e w11 ⟨hA, hc, rfl, hho, hhb⟩
                  have hxR := Lib.hid (hxR.out.below hhb)
                  have hq11 := Lib.hid (hq10.out.below hhb)
                  have hBw11 := hB1h.out.trans (hq11.out.bel.mono hB1h.out.size)
                  obtain ⟨ad2, ead, _, hone⟩ := (hx0.out.below hBw11).one8 hjl
                  have hone := hone
                  cases ead
                  have hsl := run_slice2 (P := Try.prog) w11 32 5 i0 Try.underlying32 hi hz1 (some ad) i xc j (j + 1) (x := (j : Int)) (y := (j : Int) + 1) rfl (by omega) (by omega) (by omega) hxc
                  rw [show j + 1 - j = 1 by omega] at hsl
                  have hF := FullB w11 [bs[j]'hjl] _ hone (by simp)
                  rw [hBB.out] at hF
                  have hF := Lib.hid hF
                  clear hone hho hhb hF2 hq10 hBw11
                  go_wp2_with fail
                  refine hF.out.mono ?_
                  rintro e w12 ⟨kA, kc, rfl, hko, hkb⟩
                  have hxR := hxR.out.below hkb
                  have hq12 := Lib.hid (hq11.out.below hkb)
                  have s1 := run_str (P := Try.prog) w12 32 9 5 _ _ Try.underlying32 Try.underlying5 Try.underlying9 hxR
                  have s2 := run_str (P := Try.prog) w12 32 9 5 _ _ Try.underlying32 Try.underlying5 Try.underlying9 (Rd.of_own hko)
                  unfold str at s1 s2
                  clear hF hko hkb hxR hsl hq11
                  go_wp2
                  go_roundw
                  case rel => exact ⟨j + 1, _, _, by omega, rfl, rfl, by go_num, hq12, rfl⟩
                  case measure => simp [RowKit.intOf]; omega
              · have hjQ' : ¬ (j : Int) < (i : Int) := by omega
                have hEj : Hid (E j = zz) := by
                  show _ = _
                  rw [hE.out]
                  exact if_neg hjQ
                have hRd := cRead hq.out hN.out (j : Int)
                rw [if_neg (by omega), Int.toNat_natCast, hq.out.la.val (by omega), hdx.out j hj70, hEj.out] at hRd
                have hRd := Lib.hid hRd
                go_wp2_with fail
                refine hRd.out.mono ?_
                intro e w9 hr
                obtain ⟨bx, cx, rfl, hx, hxb, _, _⟩ := hr.ok rfl hz5.out
                have hxR := Lib.hid (Rd.of_own hx)
                have hq9 := Lib.hid (hq.out.below hxb)
                clear hRd hr hx hxb
                go_wp2_with fail
                refine wp_mixs (fun W => Below w9.heap.size w9 W) [2] (by kernel_rfl) (by kernel_rfl) (by kernel_rfl) (by decide) ((Below.refl _ _).drew) ?_
                iterate 2 ((first | refine mixsq rfl rfl 0 (by decide +kernel) ?_ (fun w' hw' => Or.inl ?_) (fun K hK => ?_) | refine mixsq rfl rfl 1 (by decide +kernel) ?_ (fun w' hw' => Or.inl ?_) (fun K hK => ?_) | refine mixsq rfl rfl 2 (by decide +kernel) ?_ (fun w' hw' => Or.inl ?_) (fun K hK => ?_) | refine mixsq rfl rfl 3 (by decide +kernel) ?_ (fun w' hw' => Or.inl ?_) (fun K hK => ?_) | refine mixsq rfl rfl 4 (by decide +kernel) ?_ (fun w' hw' => Or.inl ?_) (fun K hK => ?_) | refine mixsq rfl rfl 5 (by decide +kernel) ?_ (fun w' hw' => Or.inl ?_) (fun K hK => ?_) | refine mixsq rfl rfl 6 (by decide +kernel) ?_ (fun w' hw' => Or.inl ?_) (fun K hK => ?_) | refine mixsq rfl rfl 7 (by decide +kernel) ?_ (fun w' hw' => Or.inl ?_) (fun K hK => ?_)); rotate_left; (focus (have hb : Below w9.heap.size w9 w' := hw'; have s1 := run_str (P := Try.prog) w' 32 9 5 _ _ Try.underlying32 Try.underlying5 Try.underlying9 (hxR.out.below hb); unfold str at s1; go_simp; rfl)); go_simp; refine hK _ ?_; clear hK K)
                refine mixsl rfl rfl (fun K hK => ?_)
                go_simp
                refine (hF0.out w9.drew).mono ?_
                rintro e w10 ⟨fA, fc, rfl, hfo, hfb⟩
                have b7 : Below w9.heap.size w9 w10 := ⟨hfb.os, hfb.tape, hfb.output, hfb.size, hfb.block⟩
                have r7 := Rd.of_own hfo
                refine hK (fun W => Below w9.heap.size w9 W ∧ Rd W (.slice fA 512 fc) (bvs zz)) _ _ (fun _ => ⟨⟨b7, r7⟩, fun _ => b7⟩) ?_
                clear hK K
                (refine mixsq rfl rfl 1 (by decide +kernel) ?_ (fun w' hw' => Or.inl ?_) (fun K hK => ?_)); rotate_left; (focus (have hb0 : Below w9.heap.size w9 w' ∧ Rd w' (.slice fA 512 fc) (bvs zz) := hw'; have s1 := run_str (P := Try.prog) w' 32 9 5 _ _ Try.underlying32 Try.underlying5 Try.underlying9 hb0.2; unfold str at s1; go_simp; rfl)); go_simp; refine hK _ ?_; clear hK K
                (first | refine mixsq rfl rfl 0 (by decide +kernel) ?_ (fun w' hw' => Or.inl ?_) (fun K hK => ?_) | refine mixsq rfl rfl 1 (by decide +kernel) ?_ (fun w' hw' => Or.inl ?_) (fun K hK => ?_) | refine mixsq rfl rfl 2 (by decide +kernel) ?_ (fun w' hw' => Or.inl ?_) (fun K hK => ?_) | refine mixsq rfl rfl 3 (by decide +kernel) ?_ (fun w' hw' => Or.inl ?_) (fun K hK => ?_) | refine mixsq rfl rfl 4 (by decide +kernel) ?_ (fun w' hw' => Or.inl ?_) (fun K hK => ?_) | refine mixsq rfl rfl 5 (by decide +kernel) ?_ (fun w' hw' => Or.inl ?_) (fun K hK => ?_) | refine mixsq rfl rfl 6 (by decide +kernel) ?_ (fun w' hw' => Or.inl ?_) (fun K hK => ?_) | refine mixsq rfl rfl 7 (by decide +kernel) ?_ (fun w' hw' => Or.inl ?_) (fun K hK => ?_)); rotate_left; (focus (go_simp; rfl)); go_simp; refine hK _ ?_; clear hK K
                refine mixs_nil ?_
                have hxR := Lib.hid (hxR.out.below b7)
                have hq10 := Lib.hid (hq9.out.below b7)
                clear b7 r7 hfo hfb hq9
                have hF2 := Lib.hid (hF0.out w10)
                go_wp2_with fail
                refine hF2.out.mono ?_
                rintro e w11 ⟨hA, hc, rfl, hho, hhb⟩
                have hxR := Lib.hid (hxR.out.below hhb)
                have hq11 := Lib.hid (hq10.out.below hhb)
                have hxR := hxR.out
                have s1 := run_str (P := Try.prog) w11 32 9 5 _ _ Try.underlying32 Try.underlying5 Try.underlying9 hxR
                have s2 := run_str (P := Try.prog) w11 32 9 5 _ _ Try.underlying32 Try.underlying5 Try.underlying9 (Rd.of_own hho)
                unfold str at s1 s2
                clear hxR hho hhb hF2 hq10
                go_wp2
                go_roundw
                case rel => exact ⟨j + 1, _, _, by omega, rfl, rfl, by go_num, hq11, rfl⟩
                case measure => simp [RowKit.intOf]; omega
            · have hj7 : j = 70 := by omega
              have e70 : (j : Int) = 70 := by omega
              have hfin := Lib.hid (hB1h.out.trans (hq.out.bel.mono hB1h.out.size))
              clear hq
              cases fr
              all_goals
                go_wp2
                go_ret
                exact ⟨rfl, hfin.out⟩
        · have hOp := Lib.hid (cOpenNone hdc hN.out hL)
          clear hdc hL
          go_wp2_with fail
          refine hOp.out.mono ?_
          rintro e w10 ⟨rfl, hbel⟩
          clear hOp
          go_wp2
          go_ret
          exact ⟨rfl, hB1h.out.trans (hbel.mono hB1h.out.size)⟩
end Go.Proofs.Ytlfbfmeppcicnaa
