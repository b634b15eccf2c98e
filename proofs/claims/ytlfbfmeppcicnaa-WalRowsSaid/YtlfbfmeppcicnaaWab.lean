/- WalAborts, walked. Printed by genwab.py. -/
import Derived.Test.YtlfbfmeppcicnaaWle
namespace Go.Proofs.Ytlfbfmeppcicnaa
open Go.RowKit
theorem ksW_put (m : Nat → Option (List UInt8)) {k : Nat} (hk : k < 70) (b : List UInt8) : (ksW 70 fun j => if j = k then some b else m j).length ≤ (ksW 70 m).length + 1 := by
  have := filter_one (l := List.range 70) List.nodup_range (k := k) (List.mem_range.2 hk) (p := fun j => (m j).isSome && !(j == k)) (p' := fun j => (if j = k then some b else m j).isSome) (by simp) (fun j hj => by
    have : (j == k) = false := beq_eq_false_iff_ne.2 hj
    simp [hj, this])
  unfold ksW
  rw [this, if_pos (by simp)]
  refine Nat.add_le_add_right ?_ 1
  rw [← List.countP_eq_length_filter, ← List.countP_eq_length_filter]
  exact List.countP_mono_left fun x _ h => by simp at h; exact h.1
/-- The transaction has written the blocks that the first i numbers name, all alike. -/
structure TA (ys : List Int) (zb : List UInt8) (i : Nat) (t : Tk) : Prop where
  ov : t.ov = false
  cnt : (ksW 70 t.m).length ≤ i
  has : ∀ j (hj : j < ys.length), j < i → t.m (ys[j]'hj % 64).toNat = some zb
theorem TA.new (ys : List Int) (zb : List UInt8) : TA ys zb 0 ⟨fun _ => none, false⟩ := ⟨rfl, by simp [ksW], fun j _ h => by omega⟩
theorem TA.put {ys : List Int} {zb : List UInt8} {i : Nat} {t : Tk} (h : TA ys zb i t) (hi : i < ys.length) (h63 : i < 63) (hz : zb.length = 512) :
    (twriteP 70 t (ys[i]'hi % 64) zb).1 = 0 ∧ TA ys zb (i + 1) (twriteP 70 t (ys[i]'hi % 64) zb).2 ∧ (twriteP 70 t (ys[i]'hi % 64) zb).2.m (ys[i]'hi % 64).toNat = some zb := by
  have hr : 0 ≤ ys[i]'hi % 64 ∧ ys[i]'hi % 64 < 64 := by omega
  obtain ⟨n, hn⟩ : ∃ n, ys[i]'hi % 64 = n := ⟨_, rfl⟩
  rw [hn] at hr ⊢
  have e : twriteE 70 t n zb = 0 := by
    unfold twriteE
    rw [if_neg (by omega), if_neg (by simp [h.ov]), if_neg]
    rintro ⟨_, h2⟩
    have := h.cnt
    omega
  unfold twriteP
  rw [e]
  refine ⟨rfl, ⟨h.ov, ?_, fun j hj hji => ?_⟩, ?_⟩
  · exact Nat.le_trans (ksW_put t.m (by omega) zb) (Nat.add_le_add_right h.cnt 1)
  · show (if (ys[j]'hj % 64).toNat = n.toNat then some zb else t.m _) = _
    by_cases e2 : j = i
    · subst e2
      rw [hn, if_pos rfl]
    · split
      · rfl
      · exact h.has j hj (by omega)
  · show (if n.toNat = n.toNat then _ else _) = _
    rw [if_pos rfl]
theorem tread_has {x : Lk} {t : Tk} {k : Nat} {zb : List UInt8} (ho : t.ov = false) (hm : t.m k = some zb) : treadP x t (k : Int) = (0, zb) := by
  have : (if t.ov = true then none else fI t.m (k : Int)) = some zb := by
    rw [if_neg (by simp [ho])]
    unfold fI
    rw [if_pos (by omega), Int.toNat_natCast, hm]
  unfold treadP
  rw [this]
set_option maxRecDepth 100000 in
set_option maxHeartbeats 16000000 in
theorem WalAborts_calls (w : World) {x0 x1 : Value} {ys : List Int} {bs : List UInt8} {cm : Bool} (xx0 : Rd w x0 (ys.map (Value.int .i64))) (ll0 : ys.length ≤ 9223372036854775807) (ww0 : ∀ n ∈ ys, (Lit.int .i64 n).wf = true)
    (xx1 : Rd w x1 (bvs bs)) (ll1 : bs.length ≤ 9223372036854775807) :
    Calls Try.prog 9 #[x0, x1, .bool cm] w fun e w' => e = .returned (.bool true) ∧ Below w.heap.size w w' := by
  obtain ⟨xA, xc, rfl⟩ : ∃ A c, x0 = .slice A ys.length c := by
    obtain ⟨A, c, rfl, _⟩ := xx0
    exact ⟨A, c, by simp⟩
  obtain ⟨yA, yc, rfl⟩ := xx1.shape8
  have hx0 := Lib.hid xx0
  have hx1 := Lib.hid xx1
  have hN : Hid (65 < 135 ∧ 135 ≤ 16000) := ⟨by omega, by omega⟩
  obtain ⟨L, hL⟩ : ∃ L, Hid (ys.length = L) := ⟨_, Lib.hid rfl⟩
  obtain ⟨Q, hQ⟩ : ∃ L, Hid (bs.length = L) := ⟨_, Lib.hid rfl⟩
  rw [hL.out] at hx0 ll0 ⊢
  rw [hQ.out] at hx1 ll1 ⊢
  clear xx0 ww0 xx1
  obtain ⟨zb, hzb⟩ : ∃ z, Hid (fullP bs = z) := ⟨_, Lib.hid rfl⟩
  obtain ⟨zz, hzz⟩ : ∃ z, Hid (zblk = z) := ⟨_, Lib.hid rfl⟩
  have hb5 : Hid (zb.length = 512) := by show _ = _; rw [← hzb.out, fullP_len]
  have hz5 : Hid (zz.length = 512) := by show _ = _; rw [← hzz.out, zblk_len]
  go_enter Try.func9, Try.ntmps9
  go_wp2_with fail
  refine (known_calls w).mono ?_
  rintro e w1 ⟨rfl, hB1⟩
  have hB1h := Lib.hid hB1
  clear hB1
  by_cases h60 : 60 < L
  · have h60' : (60 : Int) < (L : Int) := by omega
    go_wp2
    go_ret
    exact ⟨rfl, hB1h.out⟩
  have h60' : ¬ (60 : Int) < (L : Int) := by omega
  by_cases h64 : 64 < Q
  · have h64' : (64 : Int) < (Q : Int) := by omega
    go_wp2
    go_ret
    exact ⟨rfl, hB1h.out⟩
  have h64' : ¬ (64 : Int) < (Q : Int) := by omega
  by_cases h0 : Q = 0
  · have h0' : ((Q : Int) == 0) = true := beq_iff_eq.2 (by omega)
    go_wp2
    go_ret
    exact ⟨rfl, hB1h.out⟩
  have h0' : ((Q : Int) == 0) = false := beq_eq_false_iff_ne.2 (by omega)
  go_wp2_with fail
  refine (begun_calls w1).mono ?_
  rintro e w2 ⟨gl, g, d, rfl, hl⟩
  have hBg := Lib.hid (cBegin hl rfl)
  clear hl
  go_wp2_with fail
  refine hBg.out.mono ?_
  rintro e w3 ⟨gt, rfl, ht, _⟩
  clear hBg
  obtain ⟨xq, hxq⟩ : ∃ xq : Lk, Hid (xq = ⟨(freshK d).d, (freshK d).wt, (freshK d).pn, true⟩) := ⟨_, Lib.hid rfl⟩
  rw [← hxq.out] at ht
  obtain ⟨V, hV⟩ : ∃ V, Hid (V = fmtV) := ⟨_, Lib.hid rfl⟩
  rw [← hV.out] at ht
  have hno : Hid (∀ n, datP xq V n = zz) := fun n => by
    rw [hxq.out, hV.out, ← hzz.out]
    show fmtV (65 + n) = zblk
    unfold fmtV
    rw [if_neg (by omega)]
  have hF := Lib.hid (FullB w3 bs (.slice yA Q yc) (hx1.out.below (hB1h.out.trans (ht.bel.mono hB1h.out.size))) (by rw [hQ.out]; omega))
  rw [hzb.out] at hF
  have ht := Lib.hid ht
  go_wp2_with fail
  refine hF.out.mono ?_
  rintro e w4 ⟨fA, fc, rfl, hfo, hfb⟩
  have s1 := run_str (P := Try.prog) w4 32 9 5 _ _ Try.underlying32 Try.underlying5 Try.underlying9 (Rd.of_own hfo)
  unfold str at s1
  have hF2 := Lib.hid (Full0 w4)
  rw [hzz.out] at hF2
  have ht := Lib.hid (ht.out.below hfb)
  clear hF hfo hfb
  go_wp2_with fail
  refine hF2.out.mono ?_
  rintro e w5 ⟨gA, gc, rfl, hfo, hfb⟩
  have s2 := run_str (P := Try.prog) w5 32 9 5 _ _ Try.underlying32 Try.underlying5 Try.underlying9 (Rd.of_own hfo)
  unfold str at s2
  have ht := Lib.hid (ht.out.below hfb)
  clear hF2 hfo hfb s1
  go_wp2
  clear s2
  go_loopw [13] (fun iv wr => ∃ (i : Nat) (t : Tk), i ≤ L ∧ iv = .int .i64 (i : Int) ∧ Hid (LT w1 wr gl g gt 135 xq V t fun _ => False) ∧ Hid (TA ys zb i t)) (fun iv _ => L - (RowKit.intOf iv).toNat)
  case atStart => exact ⟨0, _, Nat.zero_le _, rfl, ht, TA.new _ _⟩
  case round =>
    obtain ⟨i, t, hi2, rfl, hT, hD⟩ := hrel
    clear ht
    have hBw := Lib.hid (hB1h.out.trans (hT.out.bel.mono hB1h.out.size))
    by_cases hiL : i < L
    · have hil : i < ys.length := by rw [hL.out]; exact hiL
      obtain ⟨ad, rfl, hc⟩ := (hx0.out.below hBw.out).intAtK hil
      obtain ⟨e1, e2, e3⟩ := hD.out.put hil (by omega) hb5.out
      obtain ⟨n0, hn0⟩ : ∃ n, Hid (ys[i]'hil = n) := ⟨_, Lib.hid rfl⟩
      rw [hn0.out] at hc e1 e2 e3
      have hmask : bits .and .i64 n0 63 = n0 % 64 := and_mask n0 6 (by decide)
      obtain ⟨k, hk⟩ : ∃ k : Nat, (k : Int) = n0 % 64 := ⟨(n0 % 64).toNat, by omega⟩
      rw [← hk] at hmask e1 e2 e3
      rw [Int.toNat_natCast] at e3
      have hk64 : k < 64 := by omega
      have hiL' : (i : Int) < (L : Int) := by omega
      replace hk := Lib.hid hk
      have hF := Lib.hid (FullB wr bs (.slice yA Q yc) (hx1.out.below hBw.out) (by rw [hQ.out]; omega))
      rw [hzb.out] at hF
      generalize ht2 : twriteP 70 t (k : Int) zb = p2 at e1 e2 e3
      obtain ⟨r2, t2⟩ := p2
      dsimp only at e1 e2 e3
      subst e1
      replace ht2 := Lib.hid ht2
      have e2 := Lib.hid e2
      have e3 := Lib.hid e3
      go_wp2_with fail
      refine hF.out.mono ?_
      rintro e w6 ⟨fA, fc, rfl, hfo, hfb⟩
      have hW := cWrite (hT.out.below hfb) hN.out (k : Int) (by omega) (by omega) _ zb (Rd.of_own hfo) (by rw [hb5.out]; omega)
      rw [show 135 - 65 = 70 from rfl, ht2.out] at hW
      have hW := Lib.hid hW
      clear hF hfo hfb hT hD
      go_wp2_with fail
      refine hW.out.mono ?_
      rintro e w7 ⟨rfl, hT, _⟩
      have hR := cTRead hT hN.out (k : Int) (by omega) (by omega)
      rw [tread_has e2.out.ov e3.out] at hR
      have hT := Lib.hid hT
      have hR := Lib.hid hR
      clear hW
      go_wp2_with fail
      refine hR.out.mono ?_
      intro e w8 hr
      obtain ⟨bx, cx, rfl, hx, hxb, _, _⟩ := hr.ok rfl hb5.out
      have hT := hT.out.below hxb
      have hR2 := cRead hT.lc hN.out (k : Int)
      rw [if_neg (by omega), Int.toNat_natCast, hT.lc.la.val (by omega), hno.out] at hR2
      have hR2 := Lib.hid hR2
      have hT := Lib.hid hT
      have hx := Lib.hid (Rd.of_own hx)
      clear hR hr hxb
      go_wp2_with fail
      refine hR2.out.mono ?_
      intro e w9 hr
      obtain ⟨by2, cy, rfl, hy, hyb, _, _⟩ := hr.ok rfl hz5.out
      have hT := Lib.hid (hT.out.below hyb)
      have s1 := run_str (P := Try.prog) w9 32 9 5 _ _ Try.underlying32 Try.underlying5 Try.underlying9 (hx.out.below hyb)
      have s2 := run_str (P := Try.prog) w9 32 9 5 _ _ Try.underlying32 Try.underlying5 Try.underlying9 (Rd.of_own hy)
      unfold str at s1 s2
      clear hR2 hr hy hyb hx hc hmask
      go_wp2
      go_roundw
      case rel => exact ⟨i + 1, t2, by omega, by go_num, hT, e2⟩
      case measure => simp [RowKit.intOf]; omega
    · obtain rfl : i = L := by omega
      cases cm
      · have hCm := Lib.hid (cAbort hT.out hD.out.ov)
        clear hT
        go_wp2_with fail
        refine hCm.out.mono ?_
        rintro e w4 ⟨rfl, hT, _⟩
        obtain ⟨y, hy⟩ : ∃ y : Lk, Hid (y = ⟨xq.d, xq.wt, xq.pn, false⟩) := ⟨_, Lib.hid rfl⟩
        rw [← hy.out] at hT
        have hl := Lib.hid hT.lc
        have hdat : Hid (∀ j (hj : j < ys.length), datP y V (ys[j]'hj % 64).toNat = zz) := fun j hj => by
          rw [hy.out]
          exact hno.out _
        clear hCm hT
        go_wp2
        go_loopw [20] (fun iv wr => ∃ j : Nat, j ≤ i ∧ iv = .int .i64 (j : Int) ∧ Hid (LC w1 wr gl g 135 (y) V fun _ => False)) (fun iv _ => i - (RowKit.intOf iv).toNat)
        case atStart => exact ⟨0, Nat.zero_le _, rfl, hl⟩
        case round =>
          obtain ⟨j, hj, rfl, hq⟩ := hrel
          clear hl
          have hBw := Lib.hid (hB1h.out.trans (hq.out.bel.mono hB1h.out.size))
          by_cases hjL : j < i
          · have hjl : j < ys.length := by rw [hL.out]; exact hjL
            obtain ⟨ad, rfl, hc⟩ := (hx0.out.below hBw.out).intAtK hjl
            have hdj := hdat.out j hjl
            obtain ⟨n0, hn0⟩ : ∃ n, Hid (ys[j]'hjl = n) := ⟨_, Lib.hid rfl⟩
            rw [hn0.out] at hc hdj
            have hmask : bits .and .i64 n0 63 = n0 % 64 := and_mask n0 6 (by decide)
            obtain ⟨k, hk⟩ : ∃ k : Nat, (k : Int) = n0 % 64 := ⟨(n0 % 64).toNat, by omega⟩
            rw [← hk] at hmask hdj
            rw [Int.toNat_natCast] at hdj
            have hk64 : k < 64 := by omega
            have hjL' : (j : Int) < (i : Int) := by omega
            have hR := cRead hq.out hN.out (k : Int)
            rw [if_neg (by omega), Int.toNat_natCast, hq.out.la.val (by omega), hdj] at hR
            replace hk := Lib.hid hk
            have hR := Lib.hid hR
            clear hdj
            go_wp2_with fail
            refine hR.out.mono ?_
            intro e w9 hr
            obtain ⟨by2, cy, rfl, hy, hyb, _, _⟩ := hr.ok rfl hz5.out
            have hq := Lib.hid (hq.out.below hyb)
            have s2 := run_str (P := Try.prog) w9 32 9 5 _ _ Try.underlying32 Try.underlying5 Try.underlying9 (Rd.of_own hy)
            unfold str at s2
            clear hR hr hy hyb hc hmask
            go_wp2
            go_roundw
            case rel => first | exact ⟨j + 1, by omega, by go_num, hq⟩ | exact ⟨j + 1, by omega, by go_num⟩
            case measure => simp [RowKit.intOf]; omega
          · obtain rfl : i = j := by omega
            have hSy := Lib.hid (cSync hq.out hN.out)
            clear hq
            go_wp2_with fail
            refine hSy.out.mono ?_
            rintro e w5 ⟨rfl, d2, V2, ⟨hl, _⟩, hv2⟩
            have hdat2 : Hid (∀ d', ∀ j (hj : j < ys.length), datP (freshK d') V2 (ys[j]'hj % 64).toNat = zz) := fun d' j hj => by
              rw [← hdat.out j hj]
              exact hv2 _ (by omega)
            have h00 := Lib.hid hl.la.h0
            have hC := Lib.hid (cCut hl.dc (by omega) (.slice none 0 0) [] (Rd.nil _ _ _) (fun h => absurd rfl h) (by simp))
            clear hSy hl hv2
            go_wp2_with fail
            refine hC.out.mono ?_
            rintro e w6 ⟨rfl, hdo, _⟩
            have hOn := Lib.hid (cOn hdo)
            clear hC hdo
            go_wp2_with fail
            refine hOn.out.mono ?_
            rintro e w7 ⟨rfl, hdc, _⟩
            have hOp := Lib.hid (cOpen hdc hN.out h00.out)
            clear hOn hdc
            go_wp2_with fail
            refine hOp.out.mono ?_
            rintro e w8 ⟨gl2, rfl, hlc, _⟩
            clear hOp
            generalize (onD (cutD _ [])) = dz at hlc
            have hdat3 := Lib.hid (hdat2.out dz)
            have hlc := Lib.hid hlc
            go_wp2
            go_loopw [26] (fun iv wr => ∃ j : Nat, j ≤ i ∧ iv = .int .i64 (j : Int) ∧ Hid (LC w1 wr gl2 g 135 (freshK dz) V2 fun _ => False)) (fun iv _ => i - (RowKit.intOf iv).toNat)
            case atStart => exact ⟨0, Nat.zero_le _, rfl, hlc⟩
            case round =>
              obtain ⟨j, hj, rfl, hq⟩ := hrel
              clear hlc
              have hBw := Lib.hid (hB1h.out.trans (hq.out.bel.mono hB1h.out.size))
              by_cases hjL : j < i
              · have hjl : j < ys.length := by rw [hL.out]; exact hjL
                obtain ⟨ad, rfl, hc⟩ := (hx0.out.below hBw.out).intAtK hjl
                have hdj := hdat3.out j hjl
                obtain ⟨n0, hn0⟩ : ∃ n, Hid (ys[j]'hjl = n) := ⟨_, Lib.hid rfl⟩
                rw [hn0.out] at hc hdj
                have hmask : bits .and .i64 n0 63 = n0 % 64 := and_mask n0 6 (by decide)
                obtain ⟨k, hk⟩ : ∃ k : Nat, (k : Int) = n0 % 64 := ⟨(n0 % 64).toNat, by omega⟩
                rw [← hk] at hmask hdj
                rw [Int.toNat_natCast] at hdj
                have hk64 : k < 64 := by omega
                have hjL' : (j : Int) < (i : Int) := by omega
                have hR := cRead hq.out hN.out (k : Int)
                rw [if_neg (by omega), Int.toNat_natCast, hq.out.la.val (by omega), hdj] at hR
                replace hk := Lib.hid hk
                have hR := Lib.hid hR
                clear hdj
                go_wp2_with fail
                refine hR.out.mono ?_
                intro e w9 hr
                obtain ⟨by2, cy, rfl, hy, hyb, _, _⟩ := hr.ok rfl hz5.out
                have hq := Lib.hid (hq.out.below hyb)
                have s2 := run_str (P := Try.prog) w9 32 9 5 _ _ Try.underlying32 Try.underlying5 Try.underlying9 (Rd.of_own hy)
                unfold str at s2
                clear hR hr hy hyb hc hmask
                go_wp2
                go_roundw
                case rel => first | exact ⟨j + 1, by omega, by go_num, hq⟩ | exact ⟨j + 1, by omega, by go_num⟩
                case measure => simp [RowKit.intOf]; omega
              · obtain rfl : i = j := by omega
                go_wp2
                go_ret
                exact ⟨rfl, hBw.out⟩
      · have hCm := Lib.hid (cCommit hT.out hN.out hD.out.ov (by rw [hxq.out]; exact ⟨Int.le_refl _, by show (0 : Int) ≤ _; omega⟩))
        clear hT
        go_wp2_with fail
        refine hCm.out.mono ?_
        rintro e w4 ⟨rfl, y, V1, hT, _, hdv, _⟩
        have hl := Lib.hid hT.lc
        have hdat : Hid (∀ j (hj : j < ys.length), datP y V1 (ys[j]'hj % 64).toNat = zb) := fun j hj => by
          rw [hdv _ (by omega), hD.out.has j hj (by rw [← hL.out]; exact hj)]
          rfl
        clear hCm hT hdv
        go_wp2
        go_loopw [20] (fun iv wr => ∃ j : Nat, j ≤ i ∧ iv = .int .i64 (j : Int) ∧ Hid (LC w1 wr gl g 135 (y) V1 fun _ => False)) (fun iv _ => i - (RowKit.intOf iv).toNat)
        case atStart => exact ⟨0, Nat.zero_le _, rfl, hl⟩
        case round =>
          obtain ⟨j, hj, rfl, hq⟩ := hrel
          clear hl
          have hBw := Lib.hid (hB1h.out.trans (hq.out.bel.mono hB1h.out.size))
          by_cases hjL : j < i
          · have hjl : j < ys.length := by rw [hL.out]; exact hjL
            obtain ⟨ad, rfl, hc⟩ := (hx0.out.below hBw.out).intAtK hjl
            have hdj := hdat.out j hjl
            obtain ⟨n0, hn0⟩ : ∃ n, Hid (ys[j]'hjl = n) := ⟨_, Lib.hid rfl⟩
            rw [hn0.out] at hc hdj
            have hmask : bits .and .i64 n0 63 = n0 % 64 := and_mask n0 6 (by decide)
            obtain ⟨k, hk⟩ : ∃ k : Nat, (k : Int) = n0 % 64 := ⟨(n0 % 64).toNat, by omega⟩
            rw [← hk] at hmask hdj
            rw [Int.toNat_natCast] at hdj
            have hk64 : k < 64 := by omega
            have hjL' : (j : Int) < (i : Int) := by omega
            have hR := cRead hq.out hN.out (k : Int)
            rw [if_neg (by omega), Int.toNat_natCast, hq.out.la.val (by omega), hdj] at hR
            replace hk := Lib.hid hk
            have hR := Lib.hid hR
            clear hdj
            go_wp2_with fail
            refine hR.out.mono ?_
            intro e w9 hr
            obtain ⟨by2, cy, rfl, hy, hyb, _, _⟩ := hr.ok rfl hb5.out
            have hq := Lib.hid (hq.out.below hyb)
            have s2 := run_str (P := Try.prog) w9 32 9 5 _ _ Try.underlying32 Try.underlying5 Try.underlying9 (Rd.of_own hy)
            unfold str at s2
            clear hR hr hy hyb hc hmask
            go_wp2
            go_roundw
            case rel => first | exact ⟨j + 1, by omega, by go_num, hq⟩ | exact ⟨j + 1, by omega, by go_num⟩
            case measure => simp [RowKit.intOf]; omega
          · obtain rfl : i = j := by omega
            have hSy := Lib.hid (cSync hq.out hN.out)
            clear hq
            go_wp2_with fail
            refine hSy.out.mono ?_
            rintro e w5 ⟨rfl, d2, V2, ⟨hl, _⟩, hv2⟩
            have hdat2 : Hid (∀ d', ∀ j (hj : j < ys.length), datP (freshK d') V2 (ys[j]'hj % 64).toNat = zb) := fun d' j hj => by
              rw [← hdat.out j hj]
              exact hv2 _ (by omega)
            have h00 := Lib.hid hl.la.h0
            have hC := Lib.hid (cCut hl.dc (by omega) (.slice none 0 0) [] (Rd.nil _ _ _) (fun h => absurd rfl h) (by simp))
            clear hSy hl hv2
            go_wp2_with fail
            refine hC.out.mono ?_
            rintro e w6 ⟨rfl, hdo, _⟩
            have hOn := Lib.hid (cOn hdo)
            clear hC hdo
            go_wp2_with fail
            refine hOn.out.mono ?_
            rintro e w7 ⟨rfl, hdc, _⟩
            have hOp := Lib.hid (cOpen hdc hN.out h00.out)
            clear hOn hdc
            go_wp2_with fail
            refine hOp.out.mono ?_
            rintro e w8 ⟨gl2, rfl, hlc, _⟩
            clear hOp
            generalize (onD (cutD _ [])) = dz at hlc
            have hdat3 := Lib.hid (hdat2.out dz)
            have hlc := Lib.hid hlc
            go_wp2
            go_loopw [26] (fun iv wr => ∃ j : Nat, j ≤ i ∧ iv = .int .i64 (j : Int) ∧ Hid (LC w1 wr gl2 g 135 (freshK dz) V2 fun _ => False)) (fun iv _ => i - (RowKit.intOf iv).toNat)
            case atStart => exact ⟨0, Nat.zero_le _, rfl, hlc⟩
            case round =>
              obtain ⟨j, hj, rfl, hq⟩ := hrel
              clear hlc
              have hBw := Lib.hid (hB1h.out.trans (hq.out.bel.mono hB1h.out.size))
              by_cases hjL : j < i
              · have hjl : j < ys.length := by rw [hL.out]; exact hjL
                obtain ⟨ad, rfl, hc⟩ := (hx0.out.below hBw.out).intAtK hjl
                have hdj := hdat3.out j hjl
                obtain ⟨n0, hn0⟩ : ∃ n, Hid (ys[j]'hjl = n) := ⟨_, Lib.hid rfl⟩
                rw [hn0.out] at hc hdj
                have hmask : bits .and .i64 n0 63 = n0 % 64 := and_mask n0 6 (by decide)
                obtain ⟨k, hk⟩ : ∃ k : Nat, (k : Int) = n0 % 64 := ⟨(n0 % 64).toNat, by omega⟩
                rw [← hk] at hmask hdj
                rw [Int.toNat_natCast] at hdj
                have hk64 : k < 64 := by omega
                have hjL' : (j : Int) < (i : Int) := by omega
                have hR := cRead hq.out hN.out (k : Int)
                rw [if_neg (by omega), Int.toNat_natCast, hq.out.la.val (by omega), hdj] at hR
                replace hk := Lib.hid hk
                have hR := Lib.hid hR
                clear hdj
                go_wp2_with fail
                refine hR.out.mono ?_
                intro e w9 hr
                obtain ⟨by2, cy, rfl, hy, hyb, _, _⟩ := hr.ok rfl hb5.out
                have hq := Lib.hid (hq.out.below hyb)
                have s2 := run_str (P := Try.prog) w9 32 9 5 _ _ Try.underlying32 Try.underlying5 Try.underlying9 (Rd.of_own hy)
                unfold str at s2
                clear hR hr hy hyb hc hmask
                have hne := str_beq zb zz
                by_cases h59 : (i : Int) < 60
                · by_cases hzq : zb = zz
                  · clear hne
                    subst hzq
                    go_wp2
                    go_roundw
                    case rel => first | exact ⟨j + 1, by omega, by go_num, hq⟩ | exact ⟨j + 1, by omega, by go_num⟩
                    case measure => simp [RowKit.intOf]; omega
                  · rw [decide_eq_false hzq] at hne
                    replace hzq := Lib.hid hzq
                    go_wp2
                    go_roundw
                    case rel => first | exact ⟨j + 1, by omega, by go_num, hq⟩ | exact ⟨j + 1, by omega, by go_num⟩
                    case measure => simp [RowKit.intOf]; omega
                · by_cases hzq : zb = zz
                  · clear hne
                    subst hzq
                    go_wp2
                    go_roundw
                    case rel => first | exact ⟨j + 1, by omega, by go_num, hq⟩ | exact ⟨j + 1, by omega, by go_num⟩
                    case measure => simp [RowKit.intOf]; omega
                  · rw [decide_eq_false hzq] at hne
                    replace hzq := Lib.hid hzq
                    go_wp2
                    go_roundw
                    case rel => first | exact ⟨j + 1, by omega, by go_num, hq⟩ | exact ⟨j + 1, by omega, by go_num⟩
                    case measure => simp [RowKit.intOf]; omega
              · obtain rfl : i = j := by omega
                go_wp2
                go_ret
                exact ⟨rfl, hBw.out⟩
end Go.Proofs.Ytlfbfmeppcicnaa
