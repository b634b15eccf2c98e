import Derived.Test.YtdlfaoggjimbpaaBak
import Derived.Deep.CutRange
namespace Go.Proofs.Ytdlfaoggjimbpaa
open Go.RowKit
theorem below_get {w W : World} {p : Addr} {v : Value} (h : Below w.heap.size w W) (hc : w.cell? p = some v) : W.cell? p = some v := (h.cell (World.block_lt_of_cell? w _ hc)).trans hc
set_option maxRecDepth 100000 in
set_option maxHeartbeats 2000000 in
theorem CodecBack_calls (w : World) {y : Value} {ps : List Put3} (xx0 : RdP w y ps) (ll0 : ps.length ≤ 9223372036854775807)
    (ww0 : ∀ k (h : k < ps.length), ps[k].bs.length ≤ 9223372036854775807 ∧ (Lit.int .i64 ps[k].kind).wf = true ∧ (Lit.int .i64 ps[k].n).wf = true) :
    Calls Try.prog 5 #[y] w fun e w' => e = .returned (.bool true) ∧ Below w.heap.size w w' := by
  have hy0 := xx0
  obtain ⟨A, c, rfl⟩ := xx0.shape
  go_enter Try.func5, Try.ntmps5
  go_wp2_with fail
  refine (known_calls w).mono ?_
  rintro e w1 ⟨rfl, hB1⟩
  go_wp2_with fail
  refine (few_calls w1 (hy0.below hB1) ll0 ww0).mono ?_
  rintro e w2 ⟨b, rfl, hF, rfl⟩
  cases b
  · go_wp2
    go_ret
    exact ⟨rfl, hB1⟩
  · obtain ⟨f1, f2, f3⟩ := hF rfl
    clear hF f3
    go_wp2_with fail
    refine (NewWriter_calls w1).mono ?_
    rintro e w2 ⟨g, rfl, hg, h2, hB2⟩
    have hg : w.heap.size ≤ g := Nat.le_trans hB1.size hg
    have hB2 : Below w.heap.size w w2 := hB1.trans (hB2.mono hB1.size)
    clear hB1
    go_wp2_with fail
    go_loopw [4] (fun i wr => ∃ (k : Nat) (v : Value), k ≤ ps.length ∧ i = .int .i64 k ∧ Hid (Wr wr g v (allP (ps.take k))) ∧ Hid (∀ j, v.ownBlock = some j → w.heap.size ≤ j) ∧ Hid ((allP (ps.take k)).length ≤ 4100 * k) ∧ Below w.heap.size w wr) (fun i _ => ps.length - (intOf i).toNat)
    case atStart => exact ⟨0, _, Nat.zero_le _, rfl, h2, fun j hj => by simp [Value.ownBlock] at hj, Nat.le_refl _, hB2⟩
    case round =>
      obtain ⟨k, v, hk, rfl, hW, hv, hL, hBr⟩ := hrel
      clear h2 hB2
      by_cases hlt : k < ps.length
      · obtain ⟨ad, B, m, d, rfl, c0, c1, c2, hm, hr, hblk⟩ := hy0.atB hBr hlt
        obtain ⟨_, q1, q2⟩ := ww0 k hlt
        have b1 := wf64 q1
        have b2 := wf64 q2
        obtain ⟨fl, _⟩ := f2 k hlt
        have hs := Lib.hid (allP_succ ps hlt)
        have hll := laid_len ps[k]
        have hlay : Hid (laid ps[k] = if ps[k].kind = 1 then [b8 ps[k].n] else if ps[k].kind = 2 then le16 ps[k].n else if ps[k].kind = 3 then le32 ps[k].n else le32 ps[k].bs.length ++ ps[k].bs) := rfl
        have hL2 : Hid ((allP (ps.take (k + 1))).length ≤ 4100 * (k + 1)) := by
          show _ ≤ _
          have := hL.out
          rw [hs.out, List.length_append]
          omega
        have hxl : (allP (ps.take k)).length ≤ 100000000 := by have := hL.out; omega
        rw [← hm] at hlay fl hll
        generalize laid ps[k] = la at *
        generalize allP (ps.take k) = xs at *
        obtain ⟨xs1, hx1⟩ : ∃ xs1, Hid (xs1 = allP (ps.take (k + 1))) := ⟨_, rfl⟩
        rw [← hx1.out] at hs hL2
        generalize ps[k].kind = kd at *
        generalize ps[k].n = kn at *
        generalize ps[k].bs = bs at *
        have hmb := Lib.hid hm
        have hxh := Lib.hid hxl
        have hbh := Lib.hid hblk
        have hrh := Lib.hid hr
        clear hm q1 q2 hll hL hxl hblk hr
        rcases (show (kd == 1) = true ∨ ((kd == 1) = false ∧ (kd == 2) = true) ∨ ((kd == 1) = false ∧ (kd == 2) = false ∧ (kd == 3) = true) ∨ ((kd == 1) = false ∧ (kd == 2) = false ∧ (kd == 3) = false) by cases kd == 1 <;> cases kd == 2 <;> cases kd == 3 <;> simp) with o1 | ⟨o1, o2⟩ | ⟨o1, o2, o3⟩ | ⟨o1, o2, o3⟩
        · have hX : Hid (xs1 = xs ++ [b8 kn]) := by
            show _ = _
            rw [hs.out, hlay.out]
            simp at o1
            simp [o1]
          clear hlay hs
          go_wp2_with fail
          refine (U8_calls wr g v xs kn hW.out (Nat.le_trans hxh.out (by omega))).mono ?_
          intro e w3 kk
          obtain ⟨rfl, v3, h3, hB3, hv3⟩ := kk.own hBr hg hv.out
          have h3 := h3.cast hX.out.symm
          clear kk hW hBr
          go_wp2
          go_roundw
          case rel => exact ⟨k + 1, v3, by omega, rfl, by rw [← hx1.out]; exact h3, hv3, by rw [← hx1.out]; exact hL2, hB3⟩
          case measure => simp [intOf]; omega
        · have hX : Hid (xs1 = xs ++ le16 kn) := by
            show _ = _
            rw [hs.out, hlay.out]
            simp at o1 o2
            simp [o1, o2]
          clear hlay hs
          go_wp2_with fail
          refine (U16_calls wr g v xs kn hW.out (Nat.le_trans hxh.out (by omega))).mono ?_
          intro e w3 kk
          obtain ⟨rfl, v3, h3, hB3, hv3⟩ := kk.own hBr hg hv.out
          have h3 := h3.cast hX.out.symm
          clear kk hW hBr
          go_wp2
          go_roundw
          case rel => exact ⟨k + 1, v3, by omega, rfl, by rw [← hx1.out]; exact h3, hv3, by rw [← hx1.out]; exact hL2, hB3⟩
          case measure => simp [intOf]; omega
        · have hX : Hid (xs1 = xs ++ le32 kn) := by
            show _ = _
            rw [hs.out, hlay.out]
            simp at o1 o2 o3
            simp [o1, o2, o3]
          clear hlay hs
          go_wp2_with fail
          refine (U32_calls wr g v xs kn hW.out (Nat.le_trans hxh.out (by omega))).mono ?_
          intro e w3 kk
          obtain ⟨rfl, v3, h3, hB3, hv3⟩ := kk.own hBr hg hv.out
          have h3 := h3.cast hX.out.symm
          clear kk hW hBr
          go_wp2
          go_roundw
          case rel => exact ⟨k + 1, v3, by omega, rfl, by rw [← hx1.out]; exact h3, hv3, by rw [← hx1.out]; exact hL2, hB3⟩
          case measure => simp [intOf]; omega
        · have hX : Hid (xs1 = xs ++ (le32 bs.length ++ bs)) := by
            show _ = _
            rw [hs.out, hlay.out]
            simp at o1 o2 o3
            simp [o1, o2, o3, hmb.out]
          clear hlay hs
          go_wp2_with fail
          refine (Bytes_calls wr g v _ xs bs hW.out hrh.out (fun hne j hj hw => by have := hbh.out hne j hj; rcases hw with e | e; omega; have := hv.out j e; omega) hxh.out (by have := hmb.out; omega)).mono ?_
          intro e w3 kk
          obtain ⟨rfl, v3, h3, hB3, hv3⟩ := kk.own hBr hg hv.out
          have h3 := h3.cast hX.out.symm
          clear kk hW hBr
          go_wp2
          go_roundw
          case rel => exact ⟨k + 1, v3, by omega, rfl, by rw [← hx1.out]; exact h3, hv3, by rw [← hx1.out]; exact hL2, hB3⟩
          case measure => simp [intOf]; omega
      · have hk2 : Hid (ps.take k = ps) := List.take_of_length_le (by omega)
        have hW := hW.out
        rw [hk2.out] at hW
        have hL := hL.out
        rw [hk2.out] at hL
        have hL2 : (allP ps).length ≤ 100000000 := by omega
        clear hL hk2
        go_wp2_with fail
        refine (Done_calls wr g v _ hW (by omega)).mono ?_
        rintro e w3 ⟨r, rfl, h3, hB3, hr3⟩
        have hB3 : Below w.heap.size w w3 := hBr.trans (hB3.mono hBr.size)
        go_wp2_with fail
        refine (NewReader_calls w3 r _ (Rd.of_own h3) (by omega)).mono ?_
        rintro e w4 ⟨g2, b4, rfl, hg2, h4, hB4, hb4⟩
        have hg2 : w.heap.size ≤ g2 := Nat.le_trans hB3.size hg2
        have hB4 : Below w.heap.size w w4 := hB3.trans (hB4.mono hB3.size)
        clear hW h3 hB3 hr3 hBr hv hb4
        go_wp2_with fail
        go_loopw [6] (fun i wx => ∃ (k : Nat) (b : Value), k ≤ ps.length ∧ i = .int .i64 k ∧ Hid (Rdr wx g2 b (allP (ps.drop k)) 0) ∧ Hid ((allP (ps.drop k)).length ≤ 1000000000) ∧ Below w.heap.size w wx) (fun i _ => ps.length - (intOf i).toNat)
        case atStart => exact ⟨0, b4, Nat.zero_le _, rfl, h4, (by omega : (allP ps).length ≤ 1000000000), hB4⟩
        case round =>
          obtain ⟨k, b, hk, rfl, hR, hL, hBx⟩ := hrel
          clear h4 hB4 hL2
          by_cases hlt : k < ps.length
          · obtain ⟨ad, B, m, d, rfl, c0, c1, c2, hm, hr⟩ := hy0.at_ hlt
            have H1 := Lib.hid (fun W (hW : Below w.heap.size w W) => below_get hW c1)
            have H2 := Lib.hid (fun W (hW : Below w.heap.size w W) => And.intro (below_get hW c2) (hr.below hW))
            have c0 := below_get hBx c0
            clear c1 c2 hr
            obtain ⟨_, q1, q2⟩ := ww0 k hlt
            have b1 := wf64 q1
            have b2 := wf64 q2
            obtain ⟨fl, _⟩ := f2 k hlt
            have hs := Lib.hid (allP_drop ps hlt)
            have hlay : Hid (laid ps[k] = if ps[k].kind = 1 then [b8 ps[k].n] else if ps[k].kind = 2 then le16 ps[k].n else if ps[k].kind = 3 then le32 ps[k].n else le32 ps[k].bs.length ++ ps[k].bs) := rfl
            have hL3 : Hid ((allP (ps.drop (k + 1))).length ≤ 1000000000) := by
              show _ ≤ _
              have := hL.out
              rw [hs.out, List.length_append] at this
              omega
            obtain ⟨rs, hrs⟩ : ∃ rs, Hid (rs = allP (ps.drop (k + 1))) := ⟨_, rfl⟩
            rw [← hrs.out] at hs hL3
            rw [hs.out] at hR hL
            generalize laid ps[k] = la at *
            generalize ps[k].kind = kd at *
            generalize ps[k].n = kn at *
            generalize ps[k].bs = bs at *
            have hmb := Lib.hid hm
            have hfl := Lib.hid fl
            have hBh := Lib.hid hBx
            clear hm q1 q2 fl hs hBx
            rcases (show (kd == 1) = true ∨ ((kd == 1) = false ∧ (kd == 2) = true) ∨ ((kd == 1) = false ∧ (kd == 2) = false ∧ (kd == 3) = true) ∨ ((kd == 1) = false ∧ (kd == 2) = false ∧ (kd == 3) = false) by cases kd == 1 <;> cases kd == 2 <;> cases kd == 3 <;> simp) with o1 | ⟨o1, o2⟩ | ⟨o1, o2, o3⟩ | ⟨o1, o2, o3⟩
            · have hX : Hid (la = [b8 kn]) := by
                show _ = _
                rw [hlay.out]
                simp at o1
                simp [o1]
              clear hlay
              rw [hX.out] at hR hL
              have hmask : bits .and .i64 kn 255 = kn % 256 := and_mask kn 8 (by decide)
              have HC := Lib.hid (RU8_calls wr.drew g2 b _ 0 (hR.out.drewN 1) hL.out)
              have HCC : Hid (∀ e w', NumOut wr.drew g2 b (takeP ([b8 kn] ++ rs) 0 1) e w' → ∃ b5, e = .returned (.int .i64 (kn % 256)) ∧ Rdr w' g2 b5 rs 0 ∧ Below w.heap.size w w') := by
                intro e w' kk
                rw [show (1 : Int) = ((1 : Nat) : Int) from rfl, takeP_app _ rs 1 rfl] at kk
                obtain ⟨b5, e5, h5, hc5, _⟩ := kk
                rw [show ((numP _ : Nat) : Int) = _ from num1 kn] at e5
                exact ⟨b5, e5, h5, (hBh.out.drew).trans (hc5.below hBh.out.size (fun k hk => by rw [hk]; exact hg2))⟩
              have c1 := H1.out wr hBh.out
              go_wp2_with fail
              refine wp_mix (fun W => W.cell? ⟨(ad.add (k * 3)).block, (ad.add (k * 3)).off + 1, none⟩ = some (.int .i64 kn)) [1] (by kernel_rfl) (by kernel_rfl) (by kernel_rfl) c1 ?_
              clear c1
              refine mixq rfl rfl ?_ (fun w' hw' => Or.inl ?_) (fun K hK => ?_); rotate_left; (focus (go_simp; rfl)); go_simp; refine hK _ ?_; clear hK K
              refine mixl rfl rfl (fun K hK => ?_)
              go_simp
              refine HC.out.mono ?_
              intro e w5 kk
              obtain ⟨b5, rfl, h5, hB5⟩ := HCC.out e w5 kk
              refine hK _ _ (fun _ => H1.out w5 hB5) ?_
              clear hK K kk HC HCC hR hBh
              iterate 8 (refine mixq rfl rfl ?_ (fun w' hw' => Or.inl ?_) (fun K hK => ?_); rotate_left; (focus (have c1' : w'.cell? ⟨(ad.add (k * 3)).block, (ad.add (k * 3)).off + 1, none⟩ = some (.int .i64 kn) := hw'; go_simp; rfl)); go_simp; refine hK _ ?_; clear hK K)
              refine mix_nil ?_
              go_wp2
              go_roundw
              case rel => exact ⟨k + 1, b5, by omega, rfl, by rw [← hrs.out]; exact h5, by rw [← hrs.out]; exact hL3, hB5⟩
              case measure => simp [intOf]; omega
            · have hX : Hid (la = le16 kn) := by
                show _ = _
                rw [hlay.out]
                simp at o1 o2
                simp [o1, o2]
              clear hlay
              rw [hX.out] at hR hL
              have hmask : bits .and .i64 kn 65535 = kn % 65536 := and_mask kn 16 (by decide)
              have HC := Lib.hid (RU16_calls wr.drew g2 b _ 0 (hR.out.drewN 1) hL.out)
              have HCC : Hid (∀ e w', NumOut wr.drew g2 b (takeP (le16 kn ++ rs) 0 2) e w' → ∃ b5, e = .returned (.int .i64 (kn % 65536)) ∧ Rdr w' g2 b5 rs 0 ∧ Below w.heap.size w w') := by
                intro e w' kk
                rw [show (2 : Int) = ((2 : Nat) : Int) from rfl, takeP_app _ rs 2 rfl] at kk
                obtain ⟨b5, e5, h5, hc5, _⟩ := kk
                rw [show ((numP _ : Nat) : Int) = _ from num2 kn] at e5
                exact ⟨b5, e5, h5, (hBh.out.drew).trans (hc5.below hBh.out.size (fun k hk => by rw [hk]; exact hg2))⟩
              have c1 := H1.out wr hBh.out
              go_wp2_with fail
              refine wp_mix (fun W => W.cell? ⟨(ad.add (k * 3)).block, (ad.add (k * 3)).off + 1, none⟩ = some (.int .i64 kn)) [1] (by kernel_rfl) (by kernel_rfl) (by kernel_rfl) c1 ?_
              clear c1
              refine mixq rfl rfl ?_ (fun w' hw' => Or.inl ?_) (fun K hK => ?_); rotate_left; (focus (go_simp; rfl)); go_simp; refine hK _ ?_; clear hK K
              refine mixl rfl rfl (fun K hK => ?_)
              go_simp
              refine HC.out.mono ?_
              intro e w5 kk
              obtain ⟨b5, rfl, h5, hB5⟩ := HCC.out e w5 kk
              refine hK _ _ (fun _ => H1.out w5 hB5) ?_
              clear hK K kk HC HCC hR hBh
              iterate 8 (refine mixq rfl rfl ?_ (fun w' hw' => Or.inl ?_) (fun K hK => ?_); rotate_left; (focus (have c1' : w'.cell? ⟨(ad.add (k * 3)).block, (ad.add (k * 3)).off + 1, none⟩ = some (.int .i64 kn) := hw'; go_simp; rfl)); go_simp; refine hK _ ?_; clear hK K)
              refine mix_nil ?_
              go_wp2
              go_roundw
              case rel => exact ⟨k + 1, b5, by omega, rfl, by rw [← hrs.out]; exact h5, by rw [← hrs.out]; exact hL3, hB5⟩
              case measure => simp [intOf]; omega
            · have hX : Hid (la = le32 kn) := by
                show _ = _
                rw [hlay.out]
                simp at o1 o2 o3
                simp [o1, o2, o3]
              clear hlay
              rw [hX.out] at hR hL
              have hmask : bits .and .i64 kn 4294967295 = kn % 4294967296 := and_mask kn 32 (by decide)
              have HC := Lib.hid (RU32_calls wr.drew g2 b _ 0 (hR.out.drewN 1) hL.out)
              have HCC : Hid (∀ e w', NumOut wr.drew g2 b (takeP (le32 kn ++ rs) 0 4) e w' → ∃ b5, e = .returned (.int .i64 (kn % 4294967296)) ∧ Rdr w' g2 b5 rs 0 ∧ Below w.heap.size w w') := by
                intro e w' kk
                rw [show (4 : Int) = ((4 : Nat) : Int) from rfl, takeP_app _ rs 4 rfl] at kk
                obtain ⟨b5, e5, h5, hc5, _⟩ := kk
                rw [show ((numP _ : Nat) : Int) = _ from num4 kn] at e5
                exact ⟨b5, e5, h5, (hBh.out.drew).trans (hc5.below hBh.out.size (fun k hk => by rw [hk]; exact hg2))⟩
              have c1 := H1.out wr hBh.out
              go_wp2_with fail
              refine wp_mix (fun W => W.cell? ⟨(ad.add (k * 3)).block, (ad.add (k * 3)).off + 1, none⟩ = some (.int .i64 kn)) [1] (by kernel_rfl) (by kernel_rfl) (by kernel_rfl) c1 ?_
              clear c1
              refine mixq rfl rfl ?_ (fun w' hw' => Or.inl ?_) (fun K hK => ?_); rotate_left; (focus (go_simp; rfl)); go_simp; refine hK _ ?_; clear hK K
              refine mixl rfl rfl (fun K hK => ?_)
              go_simp
              refine HC.out.mono ?_
              intro e w5 kk
              obtain ⟨b5, rfl, h5, hB5⟩ := HCC.out e w5 kk
              refine hK _ _ (fun _ => H1.out w5 hB5) ?_
              clear hK K kk HC HCC hR hBh
              iterate 8 (refine mixq rfl rfl ?_ (fun w' hw' => Or.inl ?_) (fun K hK => ?_); rotate_left; (focus (have c1' : w'.cell? ⟨(ad.add (k * 3)).block, (ad.add (k * 3)).off + 1, none⟩ = some (.int .i64 kn) := hw'; go_simp; rfl)); go_simp; refine hK _ ?_; clear hK K)
              refine mix_nil ?_
              go_wp2
              go_roundw
              case rel => exact ⟨k + 1, b5, by omega, rfl, by rw [← hrs.out]; exact h5, by rw [← hrs.out]; exact hL3, hB5⟩
              case measure => simp [intOf]; omega
            · have hX : Hid (la = le32 bs.length ++ bs) := by
                show _ = _
                rw [hlay.out]
                simp at o1 o2 o3
                simp [o1, o2, o3]
              clear hlay
              rw [hX.out] at hR hL
              have HC := Lib.hid (RBytes_calls wr.drew g2 b _ 0 4096 (hR.out.drewN 1) hL.out)
              have HCC : Hid (∀ e w', FixOut wr.drew g2 b (bytesP (le32 bs.length ++ bs ++ rs) 0 4096) e w' → ∃ out b5, e = .returned out ∧ Own8 w' out bs ∧ Rdr w' g2 b5 rs 0 ∧ Below w.heap.size w w') := by
                intro e w' kk
                rw [bytesP_app bs rs hfl.out] at kk
                obtain ⟨out, b5, e5, ho, h5, hc5, _, _⟩ := kk
                exact ⟨out, b5, e5, ho, h5, (hBh.out.drew).trans (hc5.below hBh.out.size (fun k hk => by rw [hk]; exact hg2))⟩
              have c2 := H2.out wr hBh.out
              go_wp2_with fail
              refine wp_mix (fun W => W.cell? ⟨(ad.add (k * 3)).block, (ad.add (k * 3)).off + 2, none⟩ = some (.slice B m d) ∧ Rd W (.slice B m d) (bvs bs)) [1, 2] (by kernel_rfl) (by kernel_rfl) (by kernel_rfl) ⟨c2.1, c2.2.drew⟩ ?_
              clear c2
              refine mixq rfl rfl ?_ (fun w' hw' => Or.inl ?_) (fun K hK => ?_); rotate_left; (focus (go_simp; rfl)); go_simp; refine hK _ ?_; clear hK K
              refine mixl rfl rfl (fun K hK => ?_)
              go_simp
              refine HC.out.mono ?_
              intro e w5 kk
              obtain ⟨out, b5, rfl, ho, h5, hB5⟩ := HCC.out e w5 kk
              refine hK _ _ (fun _ => H2.out w5 hB5) ?_
              clear hK K kk HC HCC hR hBh
              refine mixl rfl rfl (fun K hK => ?_)
              have s1 := run_str (P := Try.prog) w5 28 9 5 out _ Try.underlying28 Try.underlying5 Try.underlying9 (Rd.of_own ho)
              unfold str at s1
              go_simp
              refine hK _ _ (fun _ => H2.out w5 hB5) ?_
              clear hK K s1
              iterate 8 (refine mixq rfl rfl ?_ (fun w' hw' => Or.inl ?_) (fun K hK => ?_); rotate_left; (focus (have c2' := hw'.1; have s2 := run_str (P := Try.prog) w' 28 9 5 _ _ Try.underlying28 Try.underlying5 Try.underlying9 hw'.2; unfold str at s2; go_simp; rfl)); go_simp; refine hK _ ?_; clear hK K)
              refine mix_nil ?_
              go_wp2
              go_roundw
              case rel => exact ⟨k + 1, b5, by omega, rfl, by rw [← hrs.out]; exact h5, by rw [← hrs.out]; exact hL3, hB5⟩
              case measure => simp [intOf]; omega
          · have hk2 : Hid (ps.drop k = []) := List.drop_eq_nil_of_le (by omega)
            have hR := hR.out
            rw [hk2.out] at hR
            clear hk2
            go_wp2_with fail
            refine (REnd_calls wr g2 b _ 0 hR).mono ?_
            rintro e w5 ⟨rfl, rfl⟩
            rw [show endP (allP []) 0 = 0 by simp [endP, allP]]
            go_wp2
            go_ret
            exact ⟨rfl, hBx⟩
end Go.Proofs.Ytdlfaoggjimbpaa
