/- AllocLasts, walked. Printed by genal.py. -/
import Derived.Test.YtefbmbfhhhjgkaaAi
namespace Go.Proofs.Ytefbmbfhhhjgkaa
open Go.RowKit
/-- The first i numbers are taken. -/
def ltT (i : Nat) : Nat → Bool := fun j => decide (j < i)
theorem ltT_none (n : Nat) : leastG (ltT n) n 0 = none := leastG_all fun k _ h => decide_eq_true (by omega)
theorem ltT_some {i n : Nat} (h : i < n) : leastG (ltT i) n 0 = some i := leastG_of (Nat.zero_le _) (by omega) (decide_eq_false (by omega)) fun k _ h => decide_eq_true h
theorem ltT_flip (i j : Nat) : flipT (ltT i) i j = ltT (i + 1) j := by
  unfold flipT ltT
  by_cases e : j = i
  · subst e
    simp
  · rw [if_neg e]
    exact decide_eq_decide.2 (by omega)
theorem cnt_lt (a : Nat) : ∀ n, a ≤ n → cntT (ltT a) n = a
  | 0, h => by have : a = 0 := by omega
               subst this; rfl
  | n + 1, h => by
    rw [cntT_succ]
    by_cases e : a ≤ n
    · rw [cnt_lt a n e, if_neg (by unfold ltT; simp; omega)]
      rfl
    · obtain rfl : a = n + 1 := by omega
      rw [cntT_congr (T' := ltT n) (fun i hi => by unfold ltT; exact decide_eq_decide.2 (by omega)), cnt_lt n n (Nat.le_refl _), if_pos (by unfold ltT; simp)]
theorem P2.take_lt {W0 w : World} {gl g gt N : Nat} {x : Lk} {V : Nat → List UInt8} {bl : List Nat} {m n m' n' i : Nat} {T' : Nat → Bool} {X : Nat → Prop} {f : Int} (h : P2 W0 w gl g gt N x V bl m n (ltT i) m' n' T' X) (hM : MapIn N m n f bl) (hd : Apt m n m' n') (hi : i < n) :
    Calls Try.prog 10 #[.agg #[.int .i64 (m : Int), .int .i64 f, .int .i64 (n : Int)], .pointer (some ⟨gt, 0, none⟩)] w fun e w' =>
      e = .returned (.tuple #[.int .i64 (f + (i : Int)), .int .i64 0]) ∧ P2 W0 w' gl g gt N x V bl m n (ltT (i + 1)) m' n' T' X ∧ KeepX X w w' := by
  refine (h.take hM hd).mono ?_
  rintro e w' (⟨a, _⟩ | ⟨j, a, b, c, d⟩)
  · rw [ltT_some hi] at a; cases a
  · rw [ltT_some hi] at a
    obtain rfl : i = j := Option.some.inj a
    exact ⟨b, c.congr fun k _ => ltT_flip i k, d⟩
theorem P2.take_no {W0 w : World} {gl g gt N : Nat} {x : Lk} {V : Nat → List UInt8} {bl : List Nat} {m n m' n' : Nat} {T' : Nat → Bool} {X : Nat → Prop} {f : Int} (h : P2 W0 w gl g gt N x V bl m n (ltT n) m' n' T' X) (hM : MapIn N m n f bl) (hd : Apt m n m' n') :
    Calls Try.prog 10 #[.agg #[.int .i64 (m : Int), .int .i64 f, .int .i64 (n : Int)], .pointer (some ⟨gt, 0, none⟩)] w fun e w' =>
      e = .returned (.tuple #[.int .i64 0, .int .i64 7]) ∧ P2 W0 w' gl g gt N x V bl m n (ltT n) m' n' T' X ∧ KeepX X w w' := by
  refine (h.take hM hd).mono ?_
  rintro e w' (⟨_, b, c, d⟩ | ⟨j, a, _⟩)
  · exact ⟨b, c, d⟩
  · rw [ltT_none] at a; cases a
/-- What a commit leaves, and a sync, of the numbers. -/
theorem fits_none {N : Nat} {x : Lk} {t : Tk} (hx : x.wt = fun _ => none) (ht : TOk N t) : fitsP N x t = true := by
  unfold fitsP
  rw [hx]
  refine decide_eq_true ?_
  have h1 : ksW N (fun _ => none) = [] := by unfold ksW; exact List.filter_eq_nil_iff.2 (by simp)
  rw [h1]
  have h2 : ((ksW N t.m).filter fun k => !((none : Option (List UInt8))).isSome).length ≤ (ksW N t.m).length := List.length_filter_le _ _
  have := ht.k63
  simp only [List.length_nil]
  omega
set_option maxRecDepth 100000 in
set_option maxHeartbeats 16000000 in
theorem AllocLasts_calls (w : World) {n0 n1 n2 : Int} {cm : Bool} (ww0 : (Lit.int .i64 n0).wf = true) (ww1 : (Lit.int .i64 n1).wf = true) (ww2 : (Lit.int .i64 n2).wf = true) :
    Calls Try.prog 6 #[.int .i64 n0, .int .i64 n1, .int .i64 n2, .bool cm] w fun e w' => e = .returned (.bool true) ∧ Below w.heap.size w w' := by
  obtain ⟨k0, l0⟩ := wf64K ww0
  obtain ⟨k1, l1⟩ := wf64K ww1
  obtain ⟨k2, l2⟩ := wf64K ww2
  clear ww0 ww1 ww2
  go_enter Try.func6, Try.ntmps6
  go_wp2_with fail
  refine (known_calls w).mono ?_
  rintro e w1 ⟨rfl, hB1⟩
  have hB1h := Lib.hid hB1
  clear hB1
  by_cases b1 : n0 < 1
  · go_wp2
    go_ret
    exact ⟨rfl, hB1h.out⟩
  by_cases b2 : 200 < n0
  · go_wp2
    go_ret
    exact ⟨rfl, hB1h.out⟩
  by_cases b3 : n1 < 0
  · go_wp2
    go_ret
    exact ⟨rfl, hB1h.out⟩
  by_cases b4 : n0 < n1
  · go_wp2
    go_ret
    exact ⟨rfl, hB1h.out⟩
  by_cases b5 : n2 < 0
  · go_wp2
    go_ret
    exact ⟨rfl, hB1h.out⟩
  have hwr : IntKind.i64.wrap (n0 - n1) = n0 - n1 := by rw [IntKind.wrap_i64]; omega
  by_cases b6 : n0 - n1 < n2
  · go_wp2
    go_ret
    exact ⟨rfl, hB1h.out⟩
  obtain ⟨n, rfl⟩ : ∃ n : Nat, (n : Int) = n0 := ⟨n0.toNat, by omega⟩
  obtain ⟨a, rfl⟩ : ∃ n : Nat, (n : Int) = n1 := ⟨n1.toNat, by omega⟩
  obtain ⟨b, rfl⟩ : ∃ n : Nat, (n : Int) = n2 := ⟨n2.toNat, by omega⟩
  have hM : Hid (MapIn 100 1 n 3 [1]) := Lib.hid ⟨by omega, ⟨by omega, by omega, by omega⟩, by decide, fun k hk => by
    have : k = 0 := by omega
    subst this
    exact List.mem_cons_self⟩
  have hN : Hid (65 < 100 ∧ 100 ≤ 16000) := Lib.hid (by omega)
  have hW := Lib.hid (cNew w1 100 (by omega) (by omega))
  go_wp2_with fail
  refine hW.out.mono ?_
  rintro e w2 ⟨g, rfl, hd⟩
  have hF := Lib.hid (cFormat hd hN.out)
  clear hd hW
  go_wp2_with fail
  refine hF.out.mono ?_
  rintro e w3 ⟨d, gl, rfl, hl, _⟩
  have hl := Lib.hid hl
  clear hF
  go_wp2_with (with_reducible refine stop_store 29 ?_)
  obtain ⟨hz, hR, hB⟩ := pool_row w3 (1) (3) ((n : Int))
  refine Stop.mk (wpList_store_row rfl 29 _ _ rfl w3.heap.size #[.int .i64 (1), .int .i64 (3), .int .i64 ((n : Int))] rfl rfl 29 #[.int .i64 0, .int .i64 0, .int .i64 0] hz (by kernel_rfl) rfl (by simp [Value.oneCell']) ?_)
  clear hz
  have hsz : w3.heap.size < (World.setRow (w3.alloc (.cells #[.int .i64 0, .int .i64 0, .int .i64 0] 29)) w3.heap.size #[.int .i64 (1), .int .i64 (3), .int .i64 ((n : Int))]).heap.size := hR.lt
  generalize (World.setRow (w3.alloc (.cells #[.int .i64 0, .int .i64 0, .int .i64 0] 29)) w3.heap.size #[.int .i64 (1), .int .i64 (3), .int .i64 ((n : Int))]) = w4 at *
  obtain ⟨q, hq⟩ : ∃ q, w3.heap.size = q := ⟨_, rfl⟩
  have hBg := Lib.hid (cBegin (hl.out.more hB (Y := fun k => k = q) fun k hk => .inr ⟨by rw [hk, hq]; exact Nat.le_refl _, by rw [hk, ← hq]; exact hsz⟩) rfl)
  rw [hq] at hR ⊢
  have hR := Lib.hid hR
  clear hB hsz hl hq
  go_wp2_with fail
  refine hBg.out.mono ?_
  rintro e w5 ⟨gt, rfl, ht, hK⟩
  have hR := Lib.hid (hK.blk hR.out rfl)
  have hL := ht.fresh1 [1] 1 n
  obtain ⟨x, hx⟩ : ∃ x : Lk, Hid (x = ⟨(freshK d).d, (freshK d).wt, (freshK d).pn, true⟩) := ⟨_, Lib.hid rfl⟩
  obtain ⟨V, hV⟩ : ∃ V, Hid (V = fmtV) := ⟨_, Lib.hid rfl⟩
  rw [← hx.out, ← hV.out] at hL
  obtain ⟨T0, hT0⟩ : ∃ T0 : Nat → Bool, (fun i => bitAt (datP x V (1 + i / 4096)) (i % 4096)) = T0 := ⟨_, rfl⟩
  rw [hT0] at hL
  have hL := Lib.hid hL
  clear hBg ht hK hT0
  go_wp2_with (with_reducible refine stop_load 29 ?_)
  refine Stop.mk (wpList_load_cells_g rfl rfl rfl (load_pool hR.out) ?_)
  have hC := Lib.hid (hL.out.clear hM.out (Apt.zero _ _ _))
  clear hL
  go_wp2_with fail
  refine hC.out.mono ?_
  rintro e w6 ⟨rfl, hL, hK⟩
  have hR := Lib.hid (hK.blk hR.out rfl)
  have hL := Lib.hid (hL.congr (S := ltT 0) fun i _ => (decide_eq_false (Nat.not_lt_zero i)).symm)
  clear hC hK
  go_wp2
  go_loopw [16] (fun iv wr => ∃ i : Nat, i ≤ a ∧ iv = .int .i64 (i : Int) ∧ Hid (P2 w1 wr gl g gt 100 x V [1] 1 n (ltT i) 0 0 (fun _ => false) (fun k => k = q)) ∧ Hid (Blk wr q 29 #[.int .i64 1, .int .i64 3, .int .i64 (n : Int)])) (fun iv _ => a - (RowKit.intOf iv).toNat)
  case atStart => exact ⟨0, Nat.zero_le _, rfl, hL, hR⟩
  case round =>
    clear hL hR
    obtain ⟨i, hi, rfl, hL, hR⟩ := hrel
    by_cases hia : i < a
    · have hia' : (i : Int) < (a : Int) := by omega
      have hC := Lib.hid (hL.out.take_lt hM.out (Apt.zero _ _ _) (by omega))
      go_wp2_with (with_reducible refine stop_load 29 ?_)
      refine Stop.mk (wpList_load_cells rfl rfl rfl (load_pool hR.out) ?_)
      go_wp2_with fail
      refine hC.out.mono ?_
      rintro e w7 ⟨rfl, hL2, hK⟩
      have hR := Lib.hid (hK.blk hR.out rfl)
      have hL2 := Lib.hid hL2
      clear hC hK hL
      go_wp2
      go_roundw
      case rel => exact ⟨i + 1, by omega, by go_num, hL2, hR⟩
      case measure => simp [RowKit.intOf]; omega
    · obtain rfl : i = a := by omega
      have hia' : ¬ (i : Int) < (i : Int) := by omega
      obtain ⟨t, h1, h2, h3, h4, _⟩ := hL.out.ex
      have hCm := Lib.hid (cCommit h1 hN.out h2 (by rw [hx.out]; exact ⟨Int.le_refl _, by show (0 : Int) ≤ _; omega⟩))
      have h4 := Lib.hid h4
      clear h1 h2 h3 hL
      go_wp2_with fail
      refine hCm.out.mono ?_
      rintro e w7 ⟨rfl, y, V1, hT, hK, hdv, hop, _⟩
      have hS := Lib.hid (cSync hT.lc hN.out)
      have hR := Lib.hid (hK.blk hR.out rfl)
      replace hdv := Lib.hid hdv
      clear hCm hT hK
      go_wp2_with fail
      refine hS.out.mono ?_
      rintro e w8 ⟨rfl, d2, V2, ⟨hl, hK⟩, hv2⟩
      have hR := Lib.hid (hK.blk hR.out rfl)
      have hV2 : Hid (∀ j, j < n → bitAt (V2 (65 + (1 + j / 4096))) (j % 4096) = ltT i j) := Lib.hid fun j hj => by
        rw [hv2 _ (by omega), hdv.out _ (by omega)]
        exact h4.out j hj
      have h00 := Lib.hid hl.la.h0
      have hBg := Lib.hid (cBegin hl hop)
      clear hS hl hK hv2 hdv h4
      go_wp2_with fail
      refine hBg.out.mono ?_
      rintro e w9 ⟨gt2, rfl, ht, hK⟩
      have hR := Lib.hid (hK.blk hR.out rfl)
      obtain ⟨x2, hx2⟩ : ∃ x2 : Lk, Hid (x2 = ⟨d2, fun _ => none, 0, true⟩) := ⟨_, Lib.hid rfl⟩
      have hL := ht.fresh1 [1] 1 n
      rw [← hx2.out] at hL
      have hL := Lib.hid (hL.congr (S := ltT i) fun j hj => by rw [← hV2.out j hj, hx2.out]; rfl)
      clear hBg ht hK
      go_wp2
      go_loopw [17] (fun iv wr => ∃ k : Nat, k ≤ b ∧ iv = .int .i64 (k : Int) ∧ Hid (P2 w1 wr gl g gt2 100 x2 V2 [1] 1 n (ltT (i + k)) 0 0 (fun _ => false) (fun k => k = q)) ∧ Hid (Blk wr q 29 #[.int .i64 1, .int .i64 3, .int .i64 (n : Int)])) (fun iv _ => b - (RowKit.intOf iv).toNat)
      case atStart => exact ⟨0, Nat.zero_le _, rfl, hL, hR⟩
      case round =>
        clear hL hR
        obtain ⟨k, hk, rfl, hL, hR⟩ := hrel
        by_cases hkb : k < b
        · have hkb' : (k : Int) < (b : Int) := by omega
          have hC := Lib.hid (hL.out.take_lt hM.out (Apt.zero _ _ _) (by omega))
          go_wp2_with (with_reducible refine stop_load 29 ?_)
          refine Stop.mk (wpList_load_cells rfl rfl rfl (load_pool hR.out) ?_)
          go_wp2_with fail
          refine hC.out.mono ?_
          rintro e w10 ⟨rfl, hL2, hK⟩
          have hR := Lib.hid (hK.blk hR.out rfl)
          have hL2 := Lib.hid hL2
          clear hC hK hL
          go_wp2
          go_roundw
          case rel => exact ⟨k + 1, by omega, by go_num, hL2, hR⟩
          case measure => simp [RowKit.intOf]; omega
        · obtain rfl : k = b := by omega
          have hkb' : ¬ (k : Int) < (k : Int) := by omega
          obtain ⟨t, h1, h2, h3, _⟩ := hL.out.ex
          clear hL
          cases cm
          · have hfit := fits_none (x := x2) (by rw [hx2.out]) h1.tk
            have hCm := Lib.hid (cCommit h1 hN.out h2 (by rw [hx2.out]; exact ⟨Int.le_refl _, by show (0 : Int) ≤ _; omega⟩))
            replace hfit := Lib.hid hfit
            clear h1 h2 h3
            go_wp2_with fail
            refine hCm.out.mono ?_
            rintro e w10 ⟨rfl, y3, V3, hT, hK, _, _, _, hve⟩
            obtain rfl : V3 = V2 := funext fun j => hve j hfit.out
            have hR := Lib.hid (hK.blk hR.out rfl)
            have hdc := Lib.hid hT.lc.dc
            clear hCm hT hK hve
            have hCt := Lib.hid (cCut hdc.out (by omega) (.slice none 0 0) [] (Rd.nil _ _ _) (fun h => absurd rfl h) (by simp))
            clear hdc
            go_wp2_with fail
            refine hCt.out.mono ?_
            rintro e w11 ⟨rfl, hdo, hK⟩
            have hR := Lib.hid (hK.blk hR.out rfl)
            have hOn := Lib.hid (cOn hdo)
            clear hCt hdo hK
            go_wp2_with fail
            refine hOn.out.mono ?_
            rintro e w12 ⟨rfl, hdc, hK⟩
            have hR := Lib.hid (hK.blk hR.out rfl)
            have hOp := Lib.hid (cOpen hdc hN.out h00.out)
            clear hOn hdc hK
            go_wp2_with fail
            refine hOp.out.mono ?_
            rintro e w13 ⟨gl2, rfl, hlc, hK⟩
            have hR := Lib.hid (hK.blk hR.out rfl)
            have hBg := Lib.hid (cBegin hlc rfl)
            clear hOp hlc hK
            go_wp2_with fail
            refine hBg.out.mono ?_
            rintro e w14 ⟨gt3, rfl, ht, hK⟩
            have hR := Lib.hid (hK.blk hR.out rfl)
            have hL := Lib.hid ((ht.fresh1 [1] 1 n).congr (S := ltT i) fun j hj => by rw [← hV2.out j hj]; rfl)
            clear hBg ht hK
            go_wp2_with (with_reducible refine stop_load 29 ?_)
            refine Stop.mk (wpList_load_cells rfl rfl rfl (load_pool hR.out) ?_)
            have hFr := hL.out.free hM.out
            rw [cnt_lt i n (by omega)] at hFr
            have hFr := Lib.hid hFr
            go_wp2_with fail
            refine hFr.out.mono ?_
            rintro e w15 ⟨rfl, hb⟩
            have hbf := Lib.hid (hB1h.out.trans ((hL.out.bel.trans (hb.mono hL.out.bel.size)).mono hB1h.out.size))
            have hwr2 : IntKind.i64.wrap ((n : Int) - (i : Int)) = (n : Int) - (i : Int) := by rw [IntKind.wrap_i64]; omega
            clear hFr hb hL hR
            go_wp2
            go_ret
            exact ⟨rfl, hbf.out⟩
          · have hCm := Lib.hid (cAbort h1 h2)
            clear h1 h2 h3
            go_wp2_with fail
            refine hCm.out.mono ?_
            rintro e w10 ⟨rfl, hT, hK⟩
            have hR := Lib.hid (hK.blk hR.out rfl)
            have hdc := Lib.hid hT.lc.dc
            clear hCm hT hK
            have hCt := Lib.hid (cCut hdc.out (by omega) (.slice none 0 0) [] (Rd.nil _ _ _) (fun h => absurd rfl h) (by simp))
            clear hdc
            go_wp2_with fail
            refine hCt.out.mono ?_
            rintro e w11 ⟨rfl, hdo, hK⟩
            have hR := Lib.hid (hK.blk hR.out rfl)
            have hOn := Lib.hid (cOn hdo)
            clear hCt hdo hK
            go_wp2_with fail
            refine hOn.out.mono ?_
            rintro e w12 ⟨rfl, hdc, hK⟩
            have hR := Lib.hid (hK.blk hR.out rfl)
            have hOp := Lib.hid (cOpen hdc hN.out h00.out)
            clear hOn hdc hK
            go_wp2_with fail
            refine hOp.out.mono ?_
            rintro e w13 ⟨gl2, rfl, hlc, hK⟩
            have hR := Lib.hid (hK.blk hR.out rfl)
            have hBg := Lib.hid (cBegin hlc rfl)
            clear hOp hlc hK
            go_wp2_with fail
            refine hBg.out.mono ?_
            rintro e w14 ⟨gt3, rfl, ht, hK⟩
            have hR := Lib.hid (hK.blk hR.out rfl)
            have hL := Lib.hid ((ht.fresh1 [1] 1 n).congr (S := ltT i) fun j hj => by rw [← hV2.out j hj]; rfl)
            clear hBg ht hK
            go_wp2_with (with_reducible refine stop_load 29 ?_)
            refine Stop.mk (wpList_load_cells rfl rfl rfl (load_pool hR.out) ?_)
            have hFr := hL.out.free hM.out
            rw [cnt_lt i n (by omega)] at hFr
            have hFr := Lib.hid hFr
            go_wp2_with fail
            refine hFr.out.mono ?_
            rintro e w15 ⟨rfl, hb⟩
            have hbf := Lib.hid (hB1h.out.trans ((hL.out.bel.trans (hb.mono hL.out.bel.size)).mono hB1h.out.size))
            have hwr2 : IntKind.i64.wrap ((n : Int) - (i : Int)) = (n : Int) - (i : Int) := by rw [IntKind.wrap_i64]; omega
            clear hFr hb hL hR
            go_wp2
            go_ret
            exact ⟨rfl, hbf.out⟩
end Go.Proofs.Ytefbmbfhhhjgkaa
