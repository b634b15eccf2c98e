/- WalGroups, walked. Printed by genwgr.py. -/
import Derived.Test.YtlfbfmeppcicnaaWra
namespace Go.Proofs.Ytlfbfmeppcicnaa
open Go.RowKit
theorem cCommitF {W0 w : World} {gl g gt N : Nat} {x : Lk} {V : Nat → List UInt8} {t : Tk} {X : Nat → Prop} (h : LT W0 w gl g gt N x V t X) (hN : 65 < N ∧ N ≤ 16000) (ho : t.ov = false) (hp : 0 ≤ x.pn ∧ x.pn ≤ 1000000000) (hfit : fitsP (N - 65) x t = true) :
    Calls Try.prog 20 #[.pointer (some ⟨gt, 0, none⟩)] w fun e w' => e = .returned (.int .i64 0) ∧ LC W0 w' gl g N ⟨x.d, mergeF x.wt t.m, x.pn + 1, false⟩ V X ∧ KeepX X w w' := by
  obtain ⟨S, F, ST, FT, h1, h2, h3, h4⟩ := h.ex
  obtain ⟨y, V', e, hl, hv, ho2, hp2, hv2⟩ := commit_ok h.la hN.1 h.tk ho
  obtain rfl : V' = V := funext fun n => hv2 n hfit
  have e2 : commitP (N - 65) x t = (0, ⟨x.d, mergeF x.wt t.m, x.pn + 1, false⟩, ⟨t.m, true⟩) := by
    unfold commitP
    rw [if_neg (show ¬ (t.ov = true) by rw [ho]; decide), if_neg (show ¬ (x.d.off = true) by rw [h.la.vw.of]; decide)]
    have hs : syncOr (N - 65) x t = (0, x) := by unfold syncOr; rw [if_pos hfit]
    rw [hs, if_neg (by simp)]
  rw [e2] at e
  injection e with _ e
  injection e with e _
  subst e
  refine (Commit_calls w h1 h2 h3 (M := 0) (by rw [show N - 65 + 65 = N by omega]; exact h.la.vw.fit) (by omega) (by omega) h.la.k63 hp).mono ?_
  rw [e2]
  rintro e w' ⟨rfl, S', F', g1, g2, g3, g4, g5⟩
  refine ⟨rfl, ⟨⟨S', F', g1, fun k hk => ?_⟩, hl, below_chg h.bel g3 (fun k hk => (h4 k hk).1), fun k hk => Nat.lt_of_lt_of_le (h.xl k hk) g3.size⟩, KeepX.of_chg g3 (fun k hk => ⟨h.xl k hk, fun hs => (h4 k hs).2 hk⟩)⟩
  rcases g4 k hk with h5 | h5
  · exact h4 k (.inl h5)
  · exact ⟨Nat.le_trans h.bel.size h5, fun hx => by have := h.xl k hx; omega⟩
theorem FullTw (w : World) (n m : Int) (a b : UInt8) (hn : n = (a.toNat : Int)) (hm : m = (b.toNat : Int)) : Calls Try.prog 19 #[.slice (some ⟨w.heap.size, 0, none⟩) 2 2] (w.alloc (.cells #[.int .u8 n, .int .u8 m] 5)) (fun e w' => ∃ A c, e = .returned (.slice A 512 c) ∧ Own8 w' (.slice A 512 c) (fullP [a, b]) ∧ Below w.heap.size w w') := by
  rw [hn, hm]
  exact FullTwo w a b
/-- Block n of a group of transactions of W writes each. -/
def grpB (W n : Nat) : List UInt8 := fullP [UInt8.ofNat (n / W + 1), UInt8.ofNat (n % W)]
theorem grpB_len (W n : Nat) : (grpB W n).length = 512 := fullP_len _
theorem grpB_ne (W n : Nat) (h : n / W + 1 < 256) : grpB W n ≠ zblk := fun e => by
  have h1 := congrArg (fun l => l.getD 0 0) e
  have h2 : (grpB W n).getD 0 0 = UInt8.ofNat (n / W + 1) := by
    unfold grpB fullP
    rw [List.getD_eq_getElem?_getD, List.getElem?_map, List.getElem?_range (by omega)]
    rfl
  have h3 : zblk.getD 0 0 = 0 := by
    unfold zblk
    rw [List.getD_eq_getElem?_getD, List.getElem?_replicate]
    rfl
  have h4 : UInt8.ofNat (n / W + 1) = 0 := h2.symm.trans (h1.trans h3)
  have h5 := congrArg UInt8.toNat h4
  rw [UInt8.toNat_ofNat'] at h5
  have h6 : (0 : UInt8).toNat = 0 := rfl
  rw [h6, Nat.mod_eq_of_lt h] at h5
  exact absurd h5 (Nat.succ_ne_zero _)
/-- Of the blocks just those from B to B + k wait. -/
def GT (W B k : Nat) (m : Nat → Option (List UInt8)) : Prop := ∀ n, m n = if B ≤ n ∧ n < B + k then some (grpB W n) else none
theorem GT.put {W B k : Nat} {m m' : Nat → Option (List UInt8)} (h : GT W B k m) (e : ∀ n, m' n = if n = B + k then some (grpB W (B + k)) else m n) : GT W B (k + 1) m' := fun n => by
  rw [e n]
  by_cases e1 : n = B + k
  · subst e1
    rw [if_pos rfl, if_pos (by omega)]
  · rw [if_neg e1, h n]
    by_cases e2 : B ≤ n ∧ n < B + k
    · rw [if_pos e2, if_pos (by omega)]
    · rw [if_neg e2, if_neg (by omega)]
theorem GT.merge {W B k : Nat} {m m' : Nat → Option (List UInt8)} (h : GT W 0 B m) (h' : GT W B k m') : GT W 0 (B + k) (mergeF m m') := fun n => by
  unfold mergeF
  rw [h' n]
  by_cases e2 : B ≤ n ∧ n < B + k
  · rw [if_pos e2, if_pos (by omega)]
  · rw [if_neg e2]
    show m n = _
    rw [h n]
    by_cases e3 : 0 ≤ n ∧ n < 0 + B
    · rw [if_pos e3, if_pos (by omega)]
    · rw [if_neg e3, if_neg (by omega)]
theorem GT.fits {W B k : Nat} {x : Lk} {t : Tk} (h : GT W 0 B x.wt) (h' : GT W B k t.m) (hk : B + k ≤ 63) : fitsP 70 x t = true := by
  unfold fitsP
  rw [← ksW_merge]
  have := TD.len (i := B + k) (t := ⟨mergeF x.wt t.m, false⟩) ⟨rfl, fun n => by
    show (mergeF x.wt t.m n).isSome = _
    rw [h.merge h' n]
    by_cases e : n < B + k
    · rw [if_pos (by omega), decide_eq_true e]; rfl
    · rw [if_neg (by omega), decide_eq_false e]; rfl⟩ (by omega)
  rw [show (ksW 70 (mergeF x.wt t.m)).length = B + k from this]
  exact decide_eq_true hk
theorem lsyncP_fit {N M : Nat} {x : Lk} (hf : Fit N M x.d) (hk : (ksW (N - 65) x.wt).length ≤ 63) : Fit N (M + 1300) (lsyncP x).2.d := by
  have h := Gr.lsyncW N (ksW (N - 65) x.wt) x.wt M x.d hf
  unfold lsyncP
  rw [hf.dl]
  split
  · exact hf.mono (by omega)
  · split
    · exact hf.mono (by omega)
    · split
      · exact h.mono (by omega)
      · exact h.mono (by omega)
set_option maxRecDepth 100000 in
set_option maxHeartbeats 16000000 in
theorem WalGroups_calls (w : World) {x3 : Value} {n0 n1 n2 : Int} {ps : List Int} (ww0 : (Lit.int .i64 n0).wf = true) (ww1 : (Lit.int .i64 n1).wf = true) (ww2 : (Lit.int .i64 n2).wf = true)
    (xx3 : Rd w x3 (ps.map (Value.int .i64))) (ll3 : ps.length ≤ 9223372036854775807) (ww3 : ∀ n ∈ ps, (Lit.int .i64 n).wf = true) :
    Calls Try.prog 8 #[.int .i64 n0, .int .i64 n1, .int .i64 n2, x3] w fun e w' => e = .returned (.bool true) ∧ Below w.heap.size w w' := by
  obtain ⟨yA, yc, rfl⟩ : ∃ A c, x3 = .slice A ps.length c := by
    obtain ⟨A, c, rfl, _⟩ := xx3
    exact ⟨A, c, by simp⟩
  have hx3 := Lib.hid xx3
  have hN : Hid (65 < 135 ∧ 135 ≤ 16000) := ⟨by omega, by omega⟩
  obtain ⟨R, hR⟩ : ∃ L, Hid (ps.length = L) := ⟨_, Lib.hid rfl⟩
  rw [hR.out] at hx3 ll3 ⊢
  obtain ⟨zz, hzz⟩ : ∃ z, Hid (zblk = z) := ⟨_, Lib.hid rfl⟩
  have hz5 : Hid (zz.length = 512) := by show _ = _; rw [← hzz.out, zblk_len]
  have hF0 := Lib.hid (fun W => Full0 W)
  rw [hzz.out] at hF0
  clear xx3 ww0 ww1 ww2 ww3
  go_enter Try.func8, Try.ntmps8
  go_wp2_with fail
  refine (known_calls w).mono ?_
  rintro e w1 ⟨rfl, hB1⟩
  have hB1h := Lib.hid hB1
  clear hB1
  by_cases a1 : n0 < 1
  · go_wp2
    go_ret
    exact ⟨rfl, hB1h.out⟩
  by_cases a2 : 20 < n0
  · go_wp2
    go_ret
    exact ⟨rfl, hB1h.out⟩
  by_cases a3 : n1 < 1
  · go_wp2
    go_ret
    exact ⟨rfl, hB1h.out⟩
  by_cases a4 : 60 < n1
  · go_wp2
    go_ret
    exact ⟨rfl, hB1h.out⟩
  obtain ⟨L, rfl⟩ : ∃ k : Nat, n0 = (k : Int) := ⟨n0.toNat, by omega⟩
  obtain ⟨W, rfl⟩ : ∃ k : Nat, n1 = (k : Int) := ⟨n1.toNat, by omega⟩
  have hLW : L * W ≤ 20 * 60 := Nat.mul_le_mul (by omega) (by omega)
  obtain ⟨P, hP⟩ : ∃ P, Hid (L * W = P) := ⟨_, Lib.hid rfl⟩
  have hmul : (L : Int) * (W : Int) = (P : Int) := by rw [← hP.out]; exact (Int.natCast_mul L W).symm
  rw [hP.out] at hLW
  by_cases a5 : 60 < P
  · have a5' : (60 : Int) < (P : Int) := by omega
    go_wp2
    go_ret
    exact ⟨rfl, hB1h.out⟩
  have a5' : ¬ (60 : Int) < (P : Int) := by omega
  by_cases r1 : 100 < R
  · have r1' : (100 : Int) < (R : Int) := by omega
    go_wp2
    go_ret
    exact ⟨rfl, hB1h.out⟩
  have r1' : ¬ (100 : Int) < (R : Int) := by omega
  by_cases c0 : n2 < 0
  · go_wp2
    go_ret
    exact ⟨rfl, hB1h.out⟩
  by_cases c5 : 500 < n2
  · go_wp2
    go_ret
    exact ⟨rfl, hB1h.out⟩
  have hW0 : 0 < W := by omega
  go_wp2_with fail
  refine (cNew w1 135 (by omega) (by omega)).mono ?_
  rintro e w2 ⟨g, rfl, hd⟩
  have hF := Lib.hid (cFormat hd (by omega))
  clear hd
  go_wp2_with fail
  refine hF.out.mono ?_
  rintro e w3 ⟨d, gl, rfl, hl, _⟩
  clear hF
  obtain ⟨V, hV⟩ : ∃ V, Hid (V = fmtV) := ⟨_, Lib.hid rfl⟩
  rw [← hV.out] at hl
  obtain ⟨xq, hxq⟩ : ∃ xq : Lk, Hid (xq = freshK d) := ⟨_, Lib.hid rfl⟩
  rw [← hxq.out] at hl
  have hl := Lib.hid hl
  have hG0 : Hid (GT W 0 0 xq.wt) := fun n => by rw [hxq.out, if_neg (by omega)]; rfl
  have hop0 : Hid (xq.op = false ∧ xq.pn = 0) := by rw [hxq.out]; exact ⟨rfl, rfl⟩
  go_wp2
  go_loopw [13] (fun iv wr => ∃ (i : Nat) (y : Lk), i ≤ L ∧ iv = .int .i64 (i : Int) ∧ Hid (LC w1 wr gl g 135 y V fun _ => False) ∧ Hid (y.op = false ∧ y.pn = (i : Int)) ∧ Hid (GT W 0 (i * W) y.wt)) (fun iv _ => L - (RowKit.intOf iv).toNat)
  case atStart => exact ⟨0, xq, Nat.zero_le _, rfl, hl, hop0, by rw [Nat.zero_mul]; exact hG0⟩
  case round =>
    obtain ⟨i, y, hi2, rfl, hq, hop, hG⟩ := hrel
    clear hl hG0 hop0
    by_cases hiL : i < L
    · have hiL' : (i : Int) < (L : Int) := by omega
      have hBe := Lib.hid (cBegin hq.out hop.out.1)
      obtain ⟨B, hB⟩ : ∃ B, Hid (i * W = B) := ⟨_, Lib.hid rfl⟩
      have hBP : B + W ≤ P := by
        rw [← hB.out, ← hP.out, ← Nat.succ_mul]
        exact Nat.mul_le_mul_right W hiL
      rw [hB.out] at hG
      go_wp2_with fail
      refine hBe.out.mono ?_
      rintro e w6 ⟨gt, rfl, ht, _⟩
      obtain ⟨xp, hxp⟩ : ∃ xp : Lk, Hid (xp = ⟨y.d, y.wt, y.pn, true⟩) := ⟨_, Lib.hid rfl⟩
      rw [← hxp.out] at ht
      have ht := Lib.hid ht
      have hGx : Hid (GT W 0 B xp.wt) := by rw [hxp.out]; exact hG.out
      have hpn : Hid (xp.pn = (i : Int)) := by rw [hxp.out]; exact hop.out.2
      clear hBe hq hop hG
      go_wp2
      go_loopw [16] (fun kv wr => ∃ (k : Nat) (t : Tk), k ≤ W ∧ kv = .int .i64 (k : Int) ∧ Hid (LT w1 wr gl g gt 135 xp V t fun _ => False) ∧ Hid (TR k t) ∧ Hid (GT W B k t.m)) (fun kv _ => W - (RowKit.intOf kv).toNat)
      case atStart => exact ⟨0, _, Nat.zero_le _, rfl, ht, TR.new, fun n => by rw [if_neg (by omega)]⟩
      case round =>
        obtain ⟨k, t, hk2, rfl, hT, hD, hGt⟩ := hrel
        clear ht
        by_cases hkW : k < W
        · have hkW' : (k : Int) < (W : Int) := by omega
          have hmi : (i : Int) * (W : Int) = (B : Int) := by rw [← hB.out]; exact (Int.natCast_mul i W).symm
          have hcv1 : IntKind.u8.wrap ((i : Int) + 1) = (i : Int) + 1 := wrap_u8 (i := i + 1) (by omega)
          have hcv2 : IntKind.u8.wrap (k : Int) = k := wrap_u8 (by omega)
          have hF := FullTwo wr (UInt8.ofNat (i + 1)) (UInt8.ofNat k)
          rw [u8_nat (by omega), u8_nat (by omega), show (((i + 1 : Nat)) : Int) = (i : Int) + 1 from rfl] at hF
          obtain ⟨D, hDD⟩ : ∃ D, Hid (fullP [UInt8.ofNat (i + 1), UInt8.ofNat k] = D) := ⟨_, Lib.hid rfl⟩
          have hD5 : Hid (D.length = 512) := by show _ = _; rw [← hDD.out, fullP_len]
          have hDg : Hid (grpB W (B + k) = D) := by
            show _ = _
            rw [← hDD.out, ← hB.out]
            unfold grpB
            rw [Nat.add_comm (i * W) k, Nat.add_mul_div_right _ _ hW0, Nat.div_eq_of_lt hkW, Nat.zero_add, Nat.add_mul_mod_self_right, Nat.mod_eq_of_lt hkW]
          rw [hDD.out] at hF
          have hF := Lib.hid hF
          obtain ⟨e1, e2, e3⟩ := hD.out.put (n := B + k) (by omega) (by omega) hD5.out
          have hG2 := Lib.hid (hGt.out.put (m' := (twriteP 70 t ((B + k : Nat) : Int) D).2.m) (by rw [hDg.out]; exact e3))
          rw [show (((B + k : Nat)) : Int) = (B : Int) + (k : Int) from rfl] at e1 e2 e3 hG2
          generalize ht2 : twriteP 70 t ((B : Int) + (k : Int)) D = p2 at e1 e2 e3 hG2
          obtain ⟨r2, t2⟩ := p2
          dsimp only at e1 e2 e3 hG2
          subst e1
          replace ht2 := Lib.hid ht2
          have e2 := Lib.hid e2
          clear e3
          go_wp2_with fail
          refine hF.out.mono ?_
          rintro e w7 ⟨fA, fc, rfl, hfo, hfb⟩
          have hWr := cWrite (hT.out.below hfb) hN.out ((B : Int) + (k : Int)) (by omega) (by omega) _ D (Rd.of_own hfo) (by rw [hD5.out]; omega)
          rw [show 135 - 65 = 70 from rfl, ht2.out] at hWr
          have hWr := Lib.hid hWr
          clear hF hfo hfb hT hD
          go_wp2_with fail
          refine hWr.out.mono ?_
          rintro e w8 ⟨rfl, hT, _⟩
          have hT := Lib.hid hT
          clear hWr
          go_wp2
          go_roundw
          case rel => exact ⟨k + 1, t2, by omega, by go_num, hT, e2, hG2⟩
          case measure => simp [RowKit.intOf]; omega
        · obtain rfl : W = k := by omega
          have hCm := Lib.hid (cCommitF hT.out hN.out hD.out.ov ⟨by rw [hpn.out]; omega, by rw [hpn.out]; omega⟩ (hGx.out.fits hGt.out (by omega)))
          have hGm := Lib.hid (hGx.out.merge hGt.out)
          rw [show B + W = (i + 1) * W by rw [← hB.out, Nat.succ_mul]] at hGm
          clear hT
          go_wp2_with fail
          refine hCm.out.mono ?_
          rintro e w7 ⟨rfl, hl, _⟩
          have hl := Lib.hid hl
          have hpn2 : Hid (xp.pn + 1 = ((i + 1 : Nat) : Int)) := by show _ = _; rw [hpn.out]; rfl
          clear hCm
          go_wp2
          go_roundw
          case rel => exact ⟨i + 1, _, by omega, by go_num, hl, ⟨rfl, hpn2.out⟩, hGm⟩
          case measure => simp [RowKit.intOf]; omega
    · obtain rfl : L = i := by omega
      have hPe := cPending hq.out
      rw [hop.out.2] at hPe
      have hPe := Lib.hid hPe
      rw [hP.out] at hG
      go_wp2_with fail
      refine hPe.out.mono ?_
      rintro e w6 ⟨rfl, rfl⟩
      have hla := hq.out.la
      have hPq := Lib.hid ((Pq.of_vw hla.vw hla.st).arm n2 ps)
      have hFit : Hid (Fit 135 0 (armD y.d n2 ps)) := ⟨hla.vw.dl, hla.vw.wl, hla.vw.wt, by show ps.length ≤ _; rw [hR.out]; omega, by show max n2 0 ≤ _; omega⟩
      have hk63 := Lib.hid hla.k63
      have hAr := Lib.hid (gArm hq.out.lg n2 (.slice yA R yc) ps (hx3.out.below (hB1h.out.trans (hq.out.bel.mono hB1h.out.size))) (by rw [hR.out]; omega))
      have hP1 : 1 ≤ P := by
        rw [← hP.out]
        exact Nat.mul_pos (by omega) hW0
      have hold : Hid (∀ n, n < 70 → V (65 + n) = zz) := fun n _ => by
        rw [hV.out, ← hzz.out]
        show fmtV (65 + n) = zblk
        unfold fmtV
        rw [if_neg (by omega)]
      have hFj : Hid (∀ n, n < P → datP y V n = grpB W n) := fun n hn => by
        unfold datP
        rw [hG.out n, if_pos (by omega)]
        rfl
      have hcase := lsyncP_tr hla hN.out.1 hPq.out
      clear hq hPq hla hPe
      go_wp2_with fail
      refine hAr.out.mono ?_
      rintro e w7 ⟨rfl, hlg, _⟩
      have hSy := gSync hlg hFit.out (by omega) hN.out.2 hk63.out
      have hft := lsyncP_fit (x := ⟨armD y.d n2 ps, y.wt, y.pn, y.op⟩) hFit.out hk63.out
      clear hAr hlg
      generalize lsyncP ⟨armD y.d n2 ps, y.wt, y.pn, y.op⟩ = so at hSy hcase hft
      obtain ⟨se, sx⟩ := so
      dsimp only at hSy hcase hft
      rcases hcase with ⟨V2, rfl, hPd, hHo⟩ | ⟨rfl, hCd⟩
      · have hSy := Lib.hid hSy
        have hft := Lib.hid hft
        go_wp2_with fail
        refine hSy.out.mono ?_
        rintro e w8 ⟨rfl, hlg, _⟩
        have hdg := hlg.dg
        have hof := gOff hdg
        clear hSy hlg
        rw [hPd.of] at hof
        have hCu := Lib.hid (gCut hdg hPd.of (by omega) (Nat.le_trans hft.out.wt (by omega)) (.slice none 0 0) [] (Rd.nil _ _ _) (fun h => absurd rfl h) (by simp))
        have hof := Lib.hid hof
        have hco := Lib.hid (hPd.cut_on [])
        have hHo := Lib.hid hHo
        clear hdg hPd
        go_wp2_with fail
        refine hof.out.mono ?_
        rintro e w8 ⟨rfl, rfl⟩
        clear hof
        go_wp2_with fail
        refine hCu.out.mono ?_
        rintro e w8 ⟨rfl, hdg, _⟩
        have hOn := Lib.hid (gOn hdg)
        clear hCu hdg
        go_wp2_with fail
        refine hOn.out.mono ?_
        rintro e w9 ⟨rfl, hdg, _⟩
        have hOp := Lib.hid (cOpen (hdg.dc hco.out.1 hco.out.2) hN.out hHo.out.1)
        clear hOn hdg
        go_wp2_with fail
        refine hOp.out.mono ?_
        rintro e w10 ⟨gl2, rfl, hlc, _⟩
        clear hOp hco
        generalize onD (cutD sx.d []) = dz at hlc
        have hdx : Hid (∀ n, n < 70 → datP (freshK dz) V2 n = datP y V n) := fun n hn => hHo.out.2 n hn
        have hlc := Lib.hid hlc
        go_wp2
        go_loopw [21, 22] (fun tv jv wr => ∃ j : Nat, j ≤ P ∧ tv = .int .i64 (j : Int) ∧ jv = .int .i64 (j : Int) ∧ Hid (LC w1 wr gl2 g 135 (freshK dz) V2 fun _ => False)) (fun _ jv _ => P - (RowKit.intOf jv).toNat)
        case atStart => exact ⟨0, Nat.zero_le _, rfl, rfl, hlc⟩
        case round =>
          obtain ⟨j, hj, rfl, rfl, hq⟩ := hrel
          clear hlc
          by_cases hjP : j < P
          · have hjP' : (j : Int) < (P : Int) := by omega
            obtain ⟨D, hDD⟩ : ∃ D, Hid (grpB W j = D) := ⟨_, Lib.hid rfl⟩
            have hD5 : Hid (D.length = 512) := by show _ = _; rw [← hDD.out, grpB_len]
            obtain ⟨qt, hqt⟩ : ∃ q, Hid (j / W = q) := ⟨_, Lib.hid rfl⟩
            obtain ⟨rm, hrm⟩ : ∃ q, Hid (j % W = q) := ⟨_, Lib.hid rfl⟩
            have hqt2 : qt ≤ 60 := by rw [← hqt.out]; exact Nat.le_trans (Nat.div_le_self _ _) (by omega)
            have hrm2 : rm ≤ 60 := by rw [← hrm.out]; exact Nat.le_trans (Nat.mod_le _ _) (by omega)
            have htd : Int.tdiv (j : Int) (W : Int) = (qt : Int) := by rw [← hqt.out]; exact Int.ofNat_tdiv j W |>.symm
            have htm : Int.tmod (j : Int) (W : Int) = (rm : Int) := by rw [← hrm.out]; exact Int.ofNat_tmod j W |>.symm
            have hWn : ¬ W = 0 := by omega
            have hwq : IntKind.i64.wrap (qt : Int) = qt := by rw [IntKind.wrap_i64]; omega
            have hwq1 : IntKind.i64.wrap ((qt : Int) + 1) = (qt : Int) + 1 := by rw [IntKind.wrap_i64]; omega
            have hwrm : IntKind.i64.wrap (rm : Int) = rm := by rw [IntKind.wrap_i64]; omega
            have hcv1 : IntKind.u8.wrap ((qt : Int) + 1) = (qt : Int) + 1 := wrap_u8 (i := qt + 1) (by omega)
            have hcv2 : IntKind.u8.wrap (rm : Int) = rm := wrap_u8 (by omega)
            have hDz : Hid (D ≠ zz) := by
              show _
              rw [← hDD.out, ← hzz.out]
              exact grpB_ne W j (by rw [hqt.out]; omega)
            have hRd := cRead hq.out hN.out (j : Int)
            rw [if_neg (by omega), Int.toNat_natCast, hq.out.la.val (by omega), hdx.out j (by omega), hFj.out j hjP, hDD.out] at hRd
            have hRd := Lib.hid hRd
            go_wp2_with fail
            refine hRd.out.mono ?_
            intro e w9 hr
            obtain ⟨bx, cx, rfl, hx, hxb, _, _⟩ := hr.ok rfl hD5.out
            have hxR := Lib.hid (Rd.of_own hx)
            have hq9 := Lib.hid (hq.out.below hxb)
            have hF := FullTwo w9.drew (UInt8.ofNat (qt + 1)) (UInt8.ofNat rm)
            rw [u8_nat (by omega), u8_nat (by omega), show (((qt + 1 : Nat)) : Int) = (qt : Int) + 1 from rfl, show fullP [UInt8.ofNat (qt + 1), UInt8.ofNat rm] = D by rw [← hDD.out, ← hqt.out, ← hrm.out]; rfl] at hF
            have hF := Lib.hid hF
            clear hRd hr hx hxb
            go_wp2_with fail
            refine wp_mixs (fun W => Below w9.heap.size w9 W) [9, 10] (by kernel_rfl) (by kernel_rfl) (by kernel_rfl) (by decide) ((Below.refl _ _).drew) ?_
            iterate 9 ((first | refine mixsq rfl rfl 0 (by decide +kernel) ?_ (fun w' hw' => Or.inl ?_) (fun K hK => ?_) | refine mixsq rfl rfl 1 (by decide +kernel) ?_ (fun w' hw' => Or.inl ?_) (fun K hK => ?_) | refine mixsq rfl rfl 2 (by decide +kernel) ?_ (fun w' hw' => Or.inl ?_) (fun K hK => ?_) | refine mixsq rfl rfl 3 (by decide +kernel) ?_ (fun w' hw' => Or.inl ?_) (fun K hK => ?_) | refine mixsq rfl rfl 4 (by decide +kernel) ?_ (fun w' hw' => Or.inl ?_) (fun K hK => ?_) | refine mixsq rfl rfl 5 (by decide +kernel) ?_ (fun w' hw' => Or.inl ?_) (fun K hK => ?_) | refine mixsq rfl rfl 6 (by decide +kernel) ?_ (fun w' hw' => Or.inl ?_) (fun K hK => ?_) | refine mixsq rfl rfl 7 (by decide +kernel) ?_ (fun w' hw' => Or.inl ?_) (fun K hK => ?_)); rotate_left; (focus (go_simp; rfl)); go_simp; refine hK _ ?_; clear hK K)
            refine mixsl rfl rfl (fun K hK => ?_)
            go_simp
            have b5 : Below w9.heap.size w9 (w9.drew.alloc (.cells #[.int .u8 ((qt : Int) + 1), .int .u8 (rm : Int)] 5)) := ((Below.refl w9.heap.size w9).drew).alloc (Nat.le_refl _) _
            refine hK (fun W => Below w9.heap.size w9 W) _ _ (fun _ => ⟨b5, fun _ => b5⟩) ?_
            clear hK K
            refine mixsl rfl rfl (fun K hK => ?_)
            go_simp
            refine hF.out.mono ?_
            rintro e w10 ⟨fA, fc, rfl, hfo, hfb⟩
            have b7 : Below w9.heap.size w9 w10 := ⟨hfb.os, hfb.tape, hfb.output, hfb.size, hfb.block⟩
            have r7 := Rd.of_own hfo
            refine hK (fun W => Below w9.heap.size w9 W ∧ Rd W (.slice fA 512 fc) (bvs D)) _ _ (fun _ => ⟨⟨b7, r7⟩, ext_all (fun _ => b7) b7⟩) ?_
            clear hK K
            (refine mixsq rfl rfl 2 (by decide +kernel) ?_ (fun w' hw' => Or.inl ?_) (fun K hK => ?_)); rotate_left; (focus (have hb0 : Below w9.heap.size w9 w' ∧ Rd w' (.slice fA 512 fc) (bvs D) := hw'; have s1 := run_str (P := Try.prog) w' 32 9 5 _ _ Try.underlying32 Try.underlying5 Try.underlying9 hb0.2; unfold str at s1; go_simp; rfl)); go_simp; refine hK _ ?_; clear hK K
            (first | refine mixsq rfl rfl 0 (by decide +kernel) ?_ (fun w' hw' => Or.inl ?_) (fun K hK => ?_) | refine mixsq rfl rfl 1 (by decide +kernel) ?_ (fun w' hw' => Or.inl ?_) (fun K hK => ?_) | refine mixsq rfl rfl 2 (by decide +kernel) ?_ (fun w' hw' => Or.inl ?_) (fun K hK => ?_) | refine mixsq rfl rfl 3 (by decide +kernel) ?_ (fun w' hw' => Or.inl ?_) (fun K hK => ?_) | refine mixsq rfl rfl 4 (by decide +kernel) ?_ (fun w' hw' => Or.inl ?_) (fun K hK => ?_) | refine mixsq rfl rfl 5 (by decide +kernel) ?_ (fun w' hw' => Or.inl ?_) (fun K hK => ?_) | refine mixsq rfl rfl 6 (by decide +kernel) ?_ (fun w' hw' => Or.inl ?_) (fun K hK => ?_) | refine mixsq rfl rfl 7 (by decide +kernel) ?_ (fun w' hw' => Or.inl ?_) (fun K hK => ?_)); rotate_left; (focus (go_simp; rfl)); go_simp; refine hK _ ?_; clear hK K
            refine mixs_nil ?_
            have hxR := Lib.hid (hxR.out.below b7)
            have hq10 := Lib.hid (hq9.out.below b7)
            have s1 := run_str (P := Try.prog) w10 32 9 5 _ _ Try.underlying32 Try.underlying5 Try.underlying9 hxR.out
            unfold str at s1
            clear b5 b7 r7 hfo hfb hq9 hF htd htm hcv1 hcv2 hwq hwq1 hwrm
            go_wp2
            go_roundw
            case rel => exact ⟨j + 1, by omega, by go_num, by go_num, hq10⟩
            case measure => simp [RowKit.intOf]; omega
          · obtain rfl : P = j := by omega
            have hfin := Lib.hid (hB1h.out.trans (hq.out.bel.mono hB1h.out.size))
            have hP0 : ((0 : Int) == (P : Int)) = false := beq_eq_false_iff_ne.2 (by omega)
            clear hq
            go_wp2
            go_ret
            exact ⟨rfl, hfin.out⟩
      · have hSy := Lib.hid hSy
        have hft := Lib.hid hft
        go_wp2_with fail
        refine hSy.out.mono ?_
        rintro e w8 ⟨rfl, hlg, _⟩
        have hdg := hlg.dg
        have hof := gOff hdg
        clear hSy hlg
        rw [hCd.off] at hof
        have hof := Lib.hid hof
        have hOn := Lib.hid (gOn hdg)
        have hlen := fun n (hn : n < 135) => hdg.len hn
        obtain ⟨Z, hZ, hVL, hSL⟩ := hCd.on_ hlen
        have hVL := Lib.hid hVL
        have hSL := Lib.hid hSL
        clear hdg hCd hlen
        go_wp2_with fail
        refine hof.out.mono ?_
        rintro e w8 ⟨rfl, rfl⟩
        clear hof
        go_wp2_with fail
        refine hOn.out.mono ?_
        rintro e w9 ⟨rfl, hdg, _⟩
        have hdc := hdg.dc hVL.out hSL.out
        clear hOn hdg
        rcases hZ with hZ | hZ
        · have hOp := Lib.hid (cOpenRep hdc hN.out hZ)
          clear hdc hZ
          go_wp2_with fail
          refine hOp.out.mono ?_
          rintro e w10 ⟨dz, V2, hho, gl2, rfl, hlc, _⟩
          clear hOp
          have hdx : Hid (∀ n, n < 70 → datP (freshK dz) V2 n = zz) := fun n hn => (hho.2 n hn).trans (hold.out n hn)
          have hlc := Lib.hid hlc
          clear hho
          go_wp2
          go_loopw [21, 22] (fun tv jv wr => ∃ j : Nat, j ≤ P ∧ tv = .int .i64 0 ∧ jv = .int .i64 (j : Int) ∧ Hid (LC w1 wr gl2 g 135 (freshK dz) V2 fun _ => False)) (fun _ jv _ => P - (RowKit.intOf jv).toNat)
          case atStart => exact ⟨0, Nat.zero_le _, rfl, rfl, hlc⟩
          case round =>
            obtain ⟨j, hj, rfl, rfl, hq⟩ := hrel
            clear hlc
            by_cases hjP : j < P
            · have hjP' : (j : Int) < (P : Int) := by omega
              obtain ⟨D, hDD⟩ : ∃ D, Hid (grpB W j = D) := ⟨_, Lib.hid rfl⟩
              have hD5 : Hid (D.length = 512) := by show _ = _; rw [← hDD.out, grpB_len]
              obtain ⟨qt, hqt⟩ : ∃ q, Hid (j / W = q) := ⟨_, Lib.hid rfl⟩
              obtain ⟨rm, hrm⟩ : ∃ q, Hid (j % W = q) := ⟨_, Lib.hid rfl⟩
              have hqt2 : qt ≤ 60 := by rw [← hqt.out]; exact Nat.le_trans (Nat.div_le_self _ _) (by omega)
              have hrm2 : rm ≤ 60 := by rw [← hrm.out]; exact Nat.le_trans (Nat.mod_le _ _) (by omega)
              have htd : Int.tdiv (j : Int) (W : Int) = (qt : Int) := by rw [← hqt.out]; exact Int.ofNat_tdiv j W |>.symm
              have htm : Int.tmod (j : Int) (W : Int) = (rm : Int) := by rw [← hrm.out]; exact Int.ofNat_tmod j W |>.symm
              have hWn : ¬ W = 0 := by omega
              have hwq : IntKind.i64.wrap (qt : Int) = qt := by rw [IntKind.wrap_i64]; omega
              have hwq1 : IntKind.i64.wrap ((qt : Int) + 1) = (qt : Int) + 1 := by rw [IntKind.wrap_i64]; omega
              have hwrm : IntKind.i64.wrap (rm : Int) = rm := by rw [IntKind.wrap_i64]; omega
              have hcv1 : IntKind.u8.wrap ((qt : Int) + 1) = (qt : Int) + 1 := wrap_u8 (i := qt + 1) (by omega)
              have hcv2 : IntKind.u8.wrap (rm : Int) = rm := wrap_u8 (by omega)
              have hDz : Hid (D ≠ zz) := by
                show _
                rw [← hDD.out, ← hzz.out]
                exact grpB_ne W j (by rw [hqt.out]; omega)
              have hRd := cRead hq.out hN.out (j : Int)
              rw [if_neg (by omega), Int.toNat_natCast, hq.out.la.val (by omega), hdx.out j (by omega)] at hRd
              have hRd := Lib.hid hRd
              go_wp2_with fail
              refine hRd.out.mono ?_
              intro e w9 hr
              obtain ⟨bx, cx, rfl, hx, hxb, _, _⟩ := hr.ok rfl hz5.out
              have hxR := Lib.hid (Rd.of_own hx)
              have hq9 := Lib.hid (hq.out.below hxb)
              have hF := FullTwo w9.drew (UInt8.ofNat (qt + 1)) (UInt8.ofNat rm)
              rw [u8_nat (by omega), u8_nat (by omega), show (((qt + 1 : Nat)) : Int) = (qt : Int) + 1 from rfl, show fullP [UInt8.ofNat (qt + 1), UInt8.ofNat rm] = D by rw [← hDD.out, ← hqt.out, ← hrm.out]; rfl] at hF
              have hF := Lib.hid hF
              clear hRd hr hx hxb
              go_wp2_with fail
              refine wp_mixs (fun W => Below w9.heap.size w9 W) [9, 10] (by kernel_rfl) (by kernel_rfl) (by kernel_rfl) (by decide) ((Below.refl _ _).drew) ?_
              iterate 9 ((first | refine mixsq rfl rfl 0 (by decide +kernel) ?_ (fun w' hw' => Or.inl ?_) (fun K hK => ?_) | refine mixsq rfl rfl 1 (by decide +kernel) ?_ (fun w' hw' => Or.inl ?_) (fun K hK => ?_) | refine mixsq rfl rfl 2 (by decide +kernel) ?_ (fun w' hw' => Or.inl ?_) (fun K hK => ?_) | refine mixsq rfl rfl 3 (by decide +kernel) ?_ (fun w' hw' => Or.inl ?_) (fun K hK => ?_) | refine mixsq rfl rfl 4 (by decide +kernel) ?_ (fun w' hw' => Or.inl ?_) (fun K hK => ?_) | refine mixsq rfl rfl 5 (by decide +kernel) ?_ (fun w' hw' => Or.inl ?_) (fun K hK => ?_) | refine mixsq rfl rfl 6 (by decide +kernel) ?_ (fun w' hw' => Or.inl ?_) (fun K hK => ?_) | refine mixsq rfl rfl 7 (by decide +kernel) ?_ (fun w' hw' => Or.inl ?_) (fun K hK => ?_)); rotate_left; (focus (go_simp; rfl)); go_simp; refine hK _ ?_; clear hK K)
              refine mixsl rfl rfl (fun K hK => ?_)
              go_simp
              have b5 : Below w9.heap.size w9 (w9.drew.alloc (.cells #[.int .u8 ((qt : Int) + 1), .int .u8 (rm : Int)] 5)) := ((Below.refl w9.heap.size w9).drew).alloc (Nat.le_refl _) _
              refine hK (fun W => Below w9.heap.size w9 W) _ _ (fun _ => ⟨b5, fun _ => b5⟩) ?_
              clear hK K
              refine mixsl rfl rfl (fun K hK => ?_)
              go_simp
              refine hF.out.mono ?_
              rintro e w10 ⟨fA, fc, rfl, hfo, hfb⟩
              have b7 : Below w9.heap.size w9 w10 := ⟨hfb.os, hfb.tape, hfb.output, hfb.size, hfb.block⟩
              have r7 := Rd.of_own hfo
              refine hK (fun W => Below w9.heap.size w9 W ∧ Rd W (.slice fA 512 fc) (bvs D)) _ _ (fun _ => ⟨⟨b7, r7⟩, ext_all (fun _ => b7) b7⟩) ?_
              clear hK K
              (refine mixsq rfl rfl 2 (by decide +kernel) ?_ (fun w' hw' => Or.inl ?_) (fun K hK => ?_)); rotate_left; (focus (have hb0 : Below w9.heap.size w9 w' ∧ Rd w' (.slice fA 512 fc) (bvs D) := hw'; have s1 := run_str (P := Try.prog) w' 32 9 5 _ _ Try.underlying32 Try.underlying5 Try.underlying9 hb0.2; unfold str at s1; go_simp; rfl)); go_simp; refine hK _ ?_; clear hK K
              (first | refine mixsq rfl rfl 0 (by decide +kernel) ?_ (fun w' hw' => Or.inl ?_) (fun K hK => ?_) | refine mixsq rfl rfl 1 (by decide +kernel) ?_ (fun w' hw' => Or.inl ?_) (fun K hK => ?_) | refine mixsq rfl rfl 2 (by decide +kernel) ?_ (fun w' hw' => Or.inl ?_) (fun K hK => ?_) | refine mixsq rfl rfl 3 (by decide +kernel) ?_ (fun w' hw' => Or.inl ?_) (fun K hK => ?_) | refine mixsq rfl rfl 4 (by decide +kernel) ?_ (fun w' hw' => Or.inl ?_) (fun K hK => ?_) | refine mixsq rfl rfl 5 (by decide +kernel) ?_ (fun w' hw' => Or.inl ?_) (fun K hK => ?_) | refine mixsq rfl rfl 6 (by decide +kernel) ?_ (fun w' hw' => Or.inl ?_) (fun K hK => ?_) | refine mixsq rfl rfl 7 (by decide +kernel) ?_ (fun w' hw' => Or.inl ?_) (fun K hK => ?_)); rotate_left; (focus (go_simp; rfl)); go_simp; refine hK _ ?_; clear hK K
              refine mixs_nil ?_
              have hxR := Lib.hid (hxR.out.below b7)
              have hq10 := Lib.hid (hq9.out.below b7)
              have s1 := run_str (P := Try.prog) w10 32 9 5 _ _ Try.underlying32 Try.underlying5 Try.underlying9 hxR.out
              unfold str at s1
              clear b5 b7 r7 hfo hfb hq9 hF htd htm hcv1 hcv2 hwq hwq1 hwrm
              have hne1 := str_beq zz D
              rw [decide_eq_false (fun e => hDz.out e.symm)] at hne1
              have hm1 : (zz == D) = false := beq_eq_false_iff_ne.2 (fun e => hDz.out e.symm)
              go_wp2_with fail
              refine wp_mixs (fun W => Below w10.heap.size w10 W) [2] (by kernel_rfl) (by kernel_rfl) (by kernel_rfl) (by decide) ((Below.refl _ _).drew) ?_
              iterate 2 ((first | refine mixsq rfl rfl 0 (by decide +kernel) ?_ (fun w' hw' => Or.inl ?_) (fun K hK => ?_) | refine mixsq rfl rfl 1 (by decide +kernel) ?_ (fun w' hw' => Or.inl ?_) (fun K hK => ?_) | refine mixsq rfl rfl 2 (by decide +kernel) ?_ (fun w' hw' => Or.inl ?_) (fun K hK => ?_) | refine mixsq rfl rfl 3 (by decide +kernel) ?_ (fun w' hw' => Or.inl ?_) (fun K hK => ?_) | refine mixsq rfl rfl 4 (by decide +kernel) ?_ (fun w' hw' => Or.inl ?_) (fun K hK => ?_) | refine mixsq rfl rfl 5 (by decide +kernel) ?_ (fun w' hw' => Or.inl ?_) (fun K hK => ?_) | refine mixsq rfl rfl 6 (by decide +kernel) ?_ (fun w' hw' => Or.inl ?_) (fun K hK => ?_) | refine mixsq rfl rfl 7 (by decide +kernel) ?_ (fun w' hw' => Or.inl ?_) (fun K hK => ?_)); rotate_left; (focus (have hb : Below w10.heap.size w10 w' := hw'; have s1 := run_str (P := Try.prog) w' 32 9 5 _ _ Try.underlying32 Try.underlying5 Try.underlying9 (hxR.out.below hb); unfold str at s1; go_simp; rfl)); go_simp; refine hK _ ?_; clear hK K)
              refine mixsl rfl rfl (fun K hK => ?_)
              go_simp
              refine (hF0.out w10.drew).mono ?_
              rintro e w11 ⟨hA, hc, rfl, hfo, hfb⟩
              have b7 : Below w10.heap.size w10 w11 := ⟨hfb.os, hfb.tape, hfb.output, hfb.size, hfb.block⟩
              have r7 := Rd.of_own hfo
              refine hK (fun W => Below w10.heap.size w10 W ∧ Rd W (.slice hA 512 hc) (bvs zz)) _ _ (fun _ => ⟨⟨b7, r7⟩, fun _ => b7⟩) ?_
              clear hK K
              (refine mixsq rfl rfl 1 (by decide +kernel) ?_ (fun w' hw' => Or.inl ?_) (fun K hK => ?_)); rotate_left; (focus (have hb0 : Below w10.heap.size w10 w' ∧ Rd w' (.slice hA 512 hc) (bvs zz) := hw'; have s1 := run_str (P := Try.prog) w' 32 9 5 _ _ Try.underlying32 Try.underlying5 Try.underlying9 hb0.2; unfold str at s1; go_simp; rfl)); go_simp; refine hK _ ?_; clear hK K
              (first | refine mixsq rfl rfl 0 (by decide +kernel) ?_ (fun w' hw' => Or.inl ?_) (fun K hK => ?_) | refine mixsq rfl rfl 1 (by decide +kernel) ?_ (fun w' hw' => Or.inl ?_) (fun K hK => ?_) | refine mixsq rfl rfl 2 (by decide +kernel) ?_ (fun w' hw' => Or.inl ?_) (fun K hK => ?_) | refine mixsq rfl rfl 3 (by decide +kernel) ?_ (fun w' hw' => Or.inl ?_) (fun K hK => ?_) | refine mixsq rfl rfl 4 (by decide +kernel) ?_ (fun w' hw' => Or.inl ?_) (fun K hK => ?_) | refine mixsq rfl rfl 5 (by decide +kernel) ?_ (fun w' hw' => Or.inl ?_) (fun K hK => ?_) | refine mixsq rfl rfl 6 (by decide +kernel) ?_ (fun w' hw' => Or.inl ?_) (fun K hK => ?_) | refine mixsq rfl rfl 7 (by decide +kernel) ?_ (fun w' hw' => Or.inl ?_) (fun K hK => ?_)); rotate_left; (focus (go_simp; rfl)); go_simp; refine hK _ ?_; clear hK K
              refine mixs_nil ?_
              have hq11 := Lib.hid (hq10.out.below b7)
              clear b7 r7 hfo hfb hq10
              go_wp2
              go_roundw
              case rel => exact ⟨j + 1, by omega, rfl, by go_num, hq11⟩
              case measure => simp [RowKit.intOf]; omega
            · obtain rfl : P = j := by omega
              have hfin := Lib.hid (hB1h.out.trans (hq.out.bel.mono hB1h.out.size))
              have hP0 : ((0 : Int) == (P : Int)) = false := beq_eq_false_iff_ne.2 (by omega)
              clear hq
              go_wp2
              go_ret
              exact ⟨rfl, hfin.out⟩
        · have hOp := Lib.hid (cOpenRep hdc hN.out hZ)
          clear hdc hZ
          go_wp2_with fail
          refine hOp.out.mono ?_
          rintro e w10 ⟨dz, V2, hho, gl2, rfl, hlc, _⟩
          clear hOp
          have hdx : Hid (∀ n, n < 70 → datP (freshK dz) V2 n = datP y V n) := fun n hn => hho.2 n hn
          have hlc := Lib.hid hlc
          clear hho
          go_wp2
          go_loopw [21, 22] (fun tv jv wr => ∃ j : Nat, j ≤ P ∧ tv = .int .i64 (j : Int) ∧ jv = .int .i64 (j : Int) ∧ Hid (LC w1 wr gl2 g 135 (freshK dz) V2 fun _ => False)) (fun _ jv _ => P - (RowKit.intOf jv).toNat)
          case atStart => exact ⟨0, Nat.zero_le _, rfl, rfl, hlc⟩
          case round =>
            obtain ⟨j, hj, rfl, rfl, hq⟩ := hrel
            clear hlc
            by_cases hjP : j < P
            · have hjP' : (j : Int) < (P : Int) := by omega
              obtain ⟨D, hDD⟩ : ∃ D, Hid (grpB W j = D) := ⟨_, Lib.hid rfl⟩
              have hD5 : Hid (D.length = 512) := by show _ = _; rw [← hDD.out, grpB_len]
              obtain ⟨qt, hqt⟩ : ∃ q, Hid (j / W = q) := ⟨_, Lib.hid rfl⟩
              obtain ⟨rm, hrm⟩ : ∃ q, Hid (j % W = q) := ⟨_, Lib.hid rfl⟩
              have hqt2 : qt ≤ 60 := by rw [← hqt.out]; exact Nat.le_trans (Nat.div_le_self _ _) (by omega)
              have hrm2 : rm ≤ 60 := by rw [← hrm.out]; exact Nat.le_trans (Nat.mod_le _ _) (by omega)
              have htd : Int.tdiv (j : Int) (W : Int) = (qt : Int) := by rw [← hqt.out]; exact Int.ofNat_tdiv j W |>.symm
              have htm : Int.tmod (j : Int) (W : Int) = (rm : Int) := by rw [← hrm.out]; exact Int.ofNat_tmod j W |>.symm
              have hWn : ¬ W = 0 := by omega
              have hwq : IntKind.i64.wrap (qt : Int) = qt := by rw [IntKind.wrap_i64]; omega
              have hwq1 : IntKind.i64.wrap ((qt : Int) + 1) = (qt : Int) + 1 := by rw [IntKind.wrap_i64]; omega
              have hwrm : IntKind.i64.wrap (rm : Int) = rm := by rw [IntKind.wrap_i64]; omega
              have hcv1 : IntKind.u8.wrap ((qt : Int) + 1) = (qt : Int) + 1 := wrap_u8 (i := qt + 1) (by omega)
              have hcv2 : IntKind.u8.wrap (rm : Int) = rm := wrap_u8 (by omega)
              have hDz : Hid (D ≠ zz) := by
                show _
                rw [← hDD.out, ← hzz.out]
                exact grpB_ne W j (by rw [hqt.out]; omega)
              have hRd := cRead hq.out hN.out (j : Int)
              rw [if_neg (by omega), Int.toNat_natCast, hq.out.la.val (by omega), hdx.out j (by omega), hFj.out j hjP, hDD.out] at hRd
              have hRd := Lib.hid hRd
              go_wp2_with fail
              refine hRd.out.mono ?_
              intro e w9 hr
              obtain ⟨bx, cx, rfl, hx, hxb, _, _⟩ := hr.ok rfl hD5.out
              have hxR := Lib.hid (Rd.of_own hx)
              have hq9 := Lib.hid (hq.out.below hxb)
              have hF := FullTwo w9.drew (UInt8.ofNat (qt + 1)) (UInt8.ofNat rm)
              rw [u8_nat (by omega), u8_nat (by omega), show (((qt + 1 : Nat)) : Int) = (qt : Int) + 1 from rfl, show fullP [UInt8.ofNat (qt + 1), UInt8.ofNat rm] = D by rw [← hDD.out, ← hqt.out, ← hrm.out]; rfl] at hF
              have hF := Lib.hid hF
              clear hRd hr hx hxb
              go_wp2_with fail
              refine wp_mixs (fun W => Below w9.heap.size w9 W) [9, 10] (by kernel_rfl) (by kernel_rfl) (by kernel_rfl) (by decide) ((Below.refl _ _).drew) ?_
              iterate 9 ((first | refine mixsq rfl rfl 0 (by decide +kernel) ?_ (fun w' hw' => Or.inl ?_) (fun K hK => ?_) | refine mixsq rfl rfl 1 (by decide +kernel) ?_ (fun w' hw' => Or.inl ?_) (fun K hK => ?_) | refine mixsq rfl rfl 2 (by decide +kernel) ?_ (fun w' hw' => Or.inl ?_) (fun K hK => ?_) | refine mixsq rfl rfl 3 (by decide +kernel) ?_ (fun w' hw' => Or.inl ?_) (fun K hK => ?_) | refine mixsq rfl rfl 4 (by decide +kernel) ?_ (fun w' hw' => Or.inl ?_) (fun K hK => ?_) | refine mixsq rfl rfl 5 (by decide +kernel) ?_ (fun w' hw' => Or.inl ?_) (fun K hK => ?_) | refine mixsq rfl rfl 6 (by decide +kernel) ?_ (fun w' hw' => Or.inl ?_) (fun K hK => ?_) | refine mixsq rfl rfl 7 (by decide +kernel) ?_ (fun w' hw' => Or.inl ?_) (fun K hK => ?_)); rotate_left; (focus (go_simp; rfl)); go_simp; refine hK _ ?_; clear hK K)
              refine mixsl rfl rfl (fun K hK => ?_)
              go_simp
              have b5 : Below w9.heap.size w9 (w9.drew.alloc (.cells #[.int .u8 ((qt : Int) + 1), .int .u8 (rm : Int)] 5)) := ((Below.refl w9.heap.size w9).drew).alloc (Nat.le_refl _) _
              refine hK (fun W => Below w9.heap.size w9 W) _ _ (fun _ => ⟨b5, fun _ => b5⟩) ?_
              clear hK K
              refine mixsl rfl rfl (fun K hK => ?_)
              go_simp
              refine hF.out.mono ?_
              rintro e w10 ⟨fA, fc, rfl, hfo, hfb⟩
              have b7 : Below w9.heap.size w9 w10 := ⟨hfb.os, hfb.tape, hfb.output, hfb.size, hfb.block⟩
              have r7 := Rd.of_own hfo
              refine hK (fun W => Below w9.heap.size w9 W ∧ Rd W (.slice fA 512 fc) (bvs D)) _ _ (fun _ => ⟨⟨b7, r7⟩, ext_all (fun _ => b7) b7⟩) ?_
              clear hK K
              (refine mixsq rfl rfl 2 (by decide +kernel) ?_ (fun w' hw' => Or.inl ?_) (fun K hK => ?_)); rotate_left; (focus (have hb0 : Below w9.heap.size w9 w' ∧ Rd w' (.slice fA 512 fc) (bvs D) := hw'; have s1 := run_str (P := Try.prog) w' 32 9 5 _ _ Try.underlying32 Try.underlying5 Try.underlying9 hb0.2; unfold str at s1; go_simp; rfl)); go_simp; refine hK _ ?_; clear hK K
              (first | refine mixsq rfl rfl 0 (by decide +kernel) ?_ (fun w' hw' => Or.inl ?_) (fun K hK => ?_) | refine mixsq rfl rfl 1 (by decide +kernel) ?_ (fun w' hw' => Or.inl ?_) (fun K hK => ?_) | refine mixsq rfl rfl 2 (by decide +kernel) ?_ (fun w' hw' => Or.inl ?_) (fun K hK => ?_) | refine mixsq rfl rfl 3 (by decide +kernel) ?_ (fun w' hw' => Or.inl ?_) (fun K hK => ?_) | refine mixsq rfl rfl 4 (by decide +kernel) ?_ (fun w' hw' => Or.inl ?_) (fun K hK => ?_) | refine mixsq rfl rfl 5 (by decide +kernel) ?_ (fun w' hw' => Or.inl ?_) (fun K hK => ?_) | refine mixsq rfl rfl 6 (by decide +kernel) ?_ (fun w' hw' => Or.inl ?_) (fun K hK => ?_) | refine mixsq rfl rfl 7 (by decide +kernel) ?_ (fun w' hw' => Or.inl ?_) (fun K hK => ?_)); rotate_left; (focus (go_simp; rfl)); go_simp; refine hK _ ?_; clear hK K
              refine mixs_nil ?_
              have hxR := Lib.hid (hxR.out.below b7)
              have hq10 := Lib.hid (hq9.out.below b7)
              have s1 := run_str (P := Try.prog) w10 32 9 5 _ _ Try.underlying32 Try.underlying5 Try.underlying9 hxR.out
              unfold str at s1
              clear b5 b7 r7 hfo hfb hq9 hF htd htm hcv1 hcv2 hwq hwq1 hwrm
              go_wp2
              go_roundw
              case rel => exact ⟨j + 1, by omega, by go_num, by go_num, hq10⟩
              case measure => simp [RowKit.intOf]; omega
            · obtain rfl : P = j := by omega
              have hfin := Lib.hid (hB1h.out.trans (hq.out.bel.mono hB1h.out.size))
              have hP0 : ((0 : Int) == (P : Int)) = false := beq_eq_false_iff_ne.2 (by omega)
              clear hq
              go_wp2
              go_ret
              exact ⟨rfl, hfin.out⟩
end Go.Proofs.Ytlfbfmeppcicnaa
