/- AllocLasts, walked. Printed by genal.py. AllocApart, walked; numbers that are not of the pool. Printed by genaz.py. AllocAll, walked. Printed by genaa.py. -/
import Derived.Test.YtefbmbfhhhjgkaaAi
namespace Go.Proofs.Ytefbmbfhhhjgkaa
open Go.RowKit
/-- The first i numbers are taken. -/
def ltT (i : Nat) : Nat → Bool := fun j => decide (j < i)
theorem ltT_none (n : Nat) : leastG (ltT n) n 0 = none := leastG_all fun k _ h => decide_eq_true (by omega)
theorem ltT_some {i n : Nat} (h : i < n) : leastG (ltT i) n 0 = some i := leastG_of (Nat.zero_le _) (by omega) (decide_eq_false (by omega)) fun k _ h => decide_eq_true h
theorem ltT_flip (i j : Nat) : flipT (ltT i) i j = ltT (i + 1) j := by
  unfold flipT ltT
  by_cases e : j = i
  · subst e
    simp
  · rw [if_neg e]
    exact decide_eq_decide.2 (by omega)
theorem cnt_lt (a : Nat) : ∀ n, a ≤ n → cntT (ltT a) n = a
  | 0, h => by have : a = 0 := by omega
               subst this; rfl
  | n + 1, h => by
    rw [cntT_succ]
    by_cases e : a ≤ n
    · rw [cnt_lt a n e, if_neg (by unfold ltT; simp; omega)]
      rfl
    · obtain rfl : a = n + 1 := by omega
      rw [cntT_congr (T' := ltT n) (fun i hi => by unfold ltT; exact decide_eq_decide.2 (by omega)), cnt_lt n n (Nat.le_refl _), if_pos (by unfold ltT; simp)]
theorem P2.take_lt {W0 w : World} {gl g gt N : Nat} {x : Lk} {V : Nat → List UInt8} {bl : List Nat} {m n m' n' i : Nat} {T' : Nat → Bool} {X : Nat → Prop} {f : Int} (h : P2 W0 w gl g gt N x V bl m n (ltT i) m' n' T' X) (hM : MapIn N m n f bl) (hd : Apt m n m' n') (hi : i < n) :
    Calls Try.prog 10 #[.agg #[.int .i64 (m : Int), .int .i64 f, .int .i64 (n : Int)], .pointer (some ⟨gt, 0, none⟩)] w fun e w' =>
      e = .returned (.tuple #[.int .i64 (f + (i : Int)), .int .i64 0]) ∧ P2 W0 w' gl g gt N x V bl m n (ltT (i + 1)) m' n' T' X ∧ KeepX X w w' := by
  refine (h.take hM hd).mono ?_
  rintro e w' (⟨a, _⟩ | ⟨j, a, b, c, d⟩)
  · rw [ltT_some hi] at a; cases a
  · rw [ltT_some hi] at a
    obtain rfl : i = j := Option.some.inj a
    exact ⟨b, c.congr fun k _ => ltT_flip i k, d⟩
theorem P2.take_no {W0 w : World} {gl g gt N : Nat} {x : Lk} {V : Nat → List UInt8} {bl : List Nat} {m n m' n' : Nat} {T' : Nat → Bool} {X : Nat → Prop} {f : Int} (h : P2 W0 w gl g gt N x V bl m n (ltT n) m' n' T' X) (hM : MapIn N m n f bl) (hd : Apt m n m' n') :
    Calls Try.prog 10 #[.agg #[.int .i64 (m : Int), .int .i64 f, .int .i64 (n : Int)], .pointer (some ⟨gt, 0, none⟩)] w fun e w' =>
      e = .returned (.tuple #[.int .i64 0, .int .i64 7]) ∧ P2 W0 w' gl g gt N x V bl m n (ltT n) m' n' T' X ∧ KeepX X w w' := by
  refine (h.take hM hd).mono ?_
  rintro e w' (⟨_, b, c, d⟩ | ⟨j, a, _⟩)
  · exact ⟨b, c, d⟩
  · rw [ltT_none] at a; cases a
/-- What a commit leaves, and a sync, of the numbers. -/
theorem fits_none {N : Nat} {x : Lk} {t : Tk} (hx : x.wt = fun _ => none) (ht : TOk N t) : fitsP N x t = true := by
  unfold fitsP
  rw [hx]
  refine decide_eq_true ?_
  have h1 : ksW N (fun _ => none) = [] := by unfold ksW; exact List.filter_eq_nil_iff.2 (by simp)
  rw [h1]
  have h2 : ((ksW N t.m).filter fun k => !((none : Option (List UInt8))).isSome).length ≤ (ksW N t.m).length := List.length_filter_le _ _
  have := ht.k63
  simp only [List.length_nil]
  omega
set_option maxRecDepth 100000 in
set_option maxHeartbeats 16000000 in
theorem AllocLasts_calls (w : World) {n0 n1 n2 : Int} {cm : Bool} (ww0 : (Lit.int .i64 n0).wf = true) (ww1 : (Lit.int .i64 n1).wf = true) (ww2 : (Lit.int .i64 n2).wf = true) :
    Calls Try.prog 6 #[.int .i64 n0, .int .i64 n1, .int .i64 n2, .bool cm] w fun e w' => e = .returned (.bool true) ∧ Below w.heap.size w w' := by
  obtain ⟨k0, l0⟩ := wf64K ww0
  obtain ⟨k1, l1⟩ := wf64K ww1
  obtain ⟨k2, l2⟩ := wf64K ww2
  clear ww0 ww1 ww2
  go_enter Try.func6, Try.ntmps6
  go_wp2_with fail
  refine (known_calls w).mono ?_
  rintro e w1 ⟨rfl, hB1⟩
  have hB1h := Lib.hid hB1
  clear hB1
  by_cases b1 : n0 < 1
  · go_wp2
    go_ret
    exact ⟨rfl, hB1h.out⟩
  by_cases b2 : 200 < n0
  · go_wp2
    go_ret
    exact ⟨rfl, hB1h.out⟩
  by_cases b3 : n1 < 0
  · go_wp2
    go_ret
    exact ⟨rfl, hB1h.out⟩
  by_cases b4 : n0 < n1
  · go_wp2
    go_ret
    exact ⟨rfl, hB1h.out⟩
  by_cases b5 : n2 < 0
  · go_wp2
    go_ret
    exact ⟨rfl, hB1h.out⟩
  have hwr : IntKind.i64.wrap (n0 - n1) = n0 - n1 := by rw [IntKind.wrap_i64]; omega
  by_cases b6 : n0 - n1 < n2
  · go_wp2
    go_ret
    exact ⟨rfl, hB1h.out⟩
  obtain ⟨n, rfl⟩ : ∃ n : Nat, (n : Int) = n0 := ⟨n0.toNat, by omega⟩
  obtain ⟨a, rfl⟩ : ∃ n : Nat, (n : Int) = n1 := ⟨n1.toNat, by omega⟩
  obtain ⟨b, rfl⟩ : ∃ n : Nat, (n : Int) = n2 := ⟨n2.toNat, by omega⟩
  have hM : Hid (MapIn 100 1 n 3 [1]) := Lib.hid ⟨by omega, ⟨by omega, by omega, by omega⟩, by decide, fun k hk => by
    have : k = 0 := by omega
    subst this
    exact List.mem_cons_self⟩
  have hN : Hid (65 < 100 ∧ 100 ≤ 16000) := Lib.hid (by omega)
  have hW := Lib.hid (cNew w1 100 (by omega) (by omega))
  go_wp2_with fail
  refine hW.out.mono ?_
  rintro e w2 ⟨g, rfl, hd⟩
  have hF := Lib.hid (cFormat hd hN.out)
  clear hd hW
  go_wp2_with fail
  refine hF.out.mono ?_
  rintro e w3 ⟨d, gl, rfl, hl, _⟩
  have hl := Lib.hid hl
  clear hF
  go_wp2_with (with_reducible refine stop_store 29 ?_)
  obtain ⟨hz, hR, hB⟩ := pool_row w3 (1) (3) ((n : Int))
  refine Stop.mk (wpList_store_row rfl 29 _ _ rfl w3.heap.size #[.int .i64 (1), .int .i64 (3), .int .i64 ((n : Int))] rfl rfl 29 #[.int .i64 0, .int .i64 0, .int .i64 0] hz (by kernel_rfl) rfl (by simp [Value.oneCell']) ?_)
  clear hz
  have hsz : w3.heap.size < (World.setRow (w3.alloc (.cells #[.int .i64 0, .int .i64 0, .int .i64 0] 29)) w3.heap.size #[.int .i64 (1), .int .i64 (3), .int .i64 ((n : Int))]).heap.size := hR.lt
  generalize (World.setRow (w3.alloc (.cells #[.int .i64 0, .int .i64 0, .int .i64 0] 29)) w3.heap.size #[.int .i64 (1), .int .i64 (3), .int .i64 ((n : Int))]) = w4 at *
  obtain ⟨q, hq⟩ : ∃ q, w3.heap.size = q := ⟨_, rfl⟩
  have hBg := Lib.hid (cBegin (hl.out.more hB (Y := fun k => k = q) fun k hk => .inr ⟨by rw [hk, hq]; exact Nat.le_refl _, by rw [hk, ← hq]; exact hsz⟩) rfl)
  rw [hq] at hR ⊢
  have hR := Lib.hid hR
  clear hB hsz hl hq
  go_wp2_with fail
  refine hBg.out.mono ?_
  rintro e w5 ⟨gt, rfl, ht, hK⟩
  have hR := Lib.hid (hK.blk hR.out rfl)
  have hL := ht.fresh1 [1] 1 n
  obtain ⟨x, hx⟩ : ∃ x : Lk, Hid (x = ⟨(freshK d).d, (freshK d).wt, (freshK d).pn, true⟩) := ⟨_, Lib.hid rfl⟩
  obtain ⟨V, hV⟩ : ∃ V, Hid (V = fmtV) := ⟨_, Lib.hid rfl⟩
  rw [← hx.out, ← hV.out] at hL
  obtain ⟨T0, hT0⟩ : ∃ T0 : Nat → Bool, (fun i => bitAt (datP x V (1 + i / 4096)) (i % 4096)) = T0 := ⟨_, rfl⟩
  rw [hT0] at hL
  have hL := Lib.hid hL
  clear hBg ht hK hT0
  go_wp2_with (with_reducible refine stop_load 29 ?_)
  refine Stop.mk (wpList_load_cells_g rfl rfl rfl (load_pool hR.out) ?_)
  have hC := Lib.hid (hL.out.clear hM.out (Apt.zero _ _ _))
  clear hL
  go_wp2_with fail
  refine hC.out.mono ?_
  rintro e w6 ⟨rfl, hL, hK⟩
  have hR := Lib.hid (hK.blk hR.out rfl)
  have hL := Lib.hid (hL.congr (S := ltT 0) fun i _ => (decide_eq_false (Nat.not_lt_zero i)).symm)
  clear hC hK
  go_wp2
  go_loopw [16] (fun iv wr => ∃ i : Nat, i ≤ a ∧ iv = .int .i64 (i : Int) ∧ Hid (P2 w1 wr gl g gt 100 x V [1] 1 n (ltT i) 0 0 (fun _ => false) (fun k => k = q)) ∧ Hid (Blk wr q 29 #[.int .i64 1, .int .i64 3, .int .i64 (n : Int)])) (fun iv _ => a - (RowKit.intOf iv).toNat)
  case atStart => exact ⟨0, Nat.zero_le _, rfl, hL, hR⟩
  case round =>
    clear hL hR
    obtain ⟨i, hi, rfl, hL, hR⟩ := hrel
    by_cases hia : i < a
    · have hia' : (i : Int) < (a : Int) := by omega
      have hC := Lib.hid (hL.out.take_lt hM.out (Apt.zero _ _ _) (by omega))
      go_wp2_with (with_reducible refine stop_load 29 ?_)
      refine Stop.mk (wpList_load_cells rfl rfl rfl (load_pool hR.out) ?_)
      go_wp2_with fail
      refine hC.out.mono ?_
      rintro e w7 ⟨rfl, hL2, hK⟩
      have hR := Lib.hid (hK.blk hR.out rfl)
      have hL2 := Lib.hid hL2
      clear hC hK hL
      go_wp2
      go_roundw
      case rel => exact ⟨i + 1, by omega, by go_num, hL2, hR⟩
      case measure => simp [RowKit.intOf]; omega
    · obtain rfl : i = a := by omega
      have hia' : ¬ (i : Int) < (i : Int) := by omega
      obtain ⟨t, h1, h2, h3, h4, _⟩ := hL.out.ex
      have hCm := Lib.hid (cCommit h1 hN.out h2 (by rw [hx.out]; exact ⟨Int.le_refl _, by show (0 : Int) ≤ _; omega⟩))
      have h4 := Lib.hid h4
      clear h1 h2 h3 hL
      go_wp2_with fail
      refine hCm.out.mono ?_
      rintro e w7 ⟨rfl, y, V1, hT, hK, hdv, hop, _⟩
      have hS := Lib.hid (cSync hT.lc hN.out)
      have hR := Lib.hid (hK.blk hR.out rfl)
      replace hdv := Lib.hid hdv
      clear hCm hT hK
      go_wp2_with fail
      refine hS.out.mono ?_
      rintro e w8 ⟨rfl, d2, V2, ⟨hl, hK⟩, hv2⟩
      have hR := Lib.hid (hK.blk hR.out rfl)
      have hV2 : Hid (∀ j, j < n → bitAt (V2 (65 + (1 + j / 4096))) (j % 4096) = ltT i j) := Lib.hid fun j hj => by
        rw [hv2 _ (by omega), hdv.out _ (by omega)]
        exact h4.out j hj
      have h00 := Lib.hid hl.la.h0
      have hBg := Lib.hid (cBegin hl hop)
      clear hS hl hK hv2 hdv h4
      go_wp2_with fail
      refine hBg.out.mono ?_
      rintro e w9 ⟨gt2, rfl, ht, hK⟩
      have hR := Lib.hid (hK.blk hR.out rfl)
      obtain ⟨x2, hx2⟩ : ∃ x2 : Lk, Hid (x2 = ⟨d2, fun _ => none, 0, true⟩) := ⟨_, Lib.hid rfl⟩
      have hL := ht.fresh1 [1] 1 n
      rw [← hx2.out] at hL
      have hL := Lib.hid (hL.congr (S := ltT i) fun j hj => by rw [← hV2.out j hj, hx2.out]; rfl)
      clear hBg ht hK
      go_wp2
      go_loopw [17] (fun iv wr => ∃ k : Nat, k ≤ b ∧ iv = .int .i64 (k : Int) ∧ Hid (P2 w1 wr gl g gt2 100 x2 V2 [1] 1 n (ltT (i + k)) 0 0 (fun _ => false) (fun k => k = q)) ∧ Hid (Blk wr q 29 #[.int .i64 1, .int .i64 3, .int .i64 (n : Int)])) (fun iv _ => b - (RowKit.intOf iv).toNat)
      case atStart => exact ⟨0, Nat.zero_le _, rfl, hL, hR⟩
      case round =>
        clear hL hR
        obtain ⟨k, hk, rfl, hL, hR⟩ := hrel
        by_cases hkb : k < b
        · have hkb' : (k : Int) < (b : Int) := by omega
          have hC := Lib.hid (hL.out.take_lt hM.out (Apt.zero _ _ _) (by omega))
          go_wp2_with (with_reducible refine stop_load 29 ?_)
          refine Stop.mk (wpList_load_cells rfl rfl rfl (load_pool hR.out) ?_)
          go_wp2_with fail
          refine hC.out.mono ?_
          rintro e w10 ⟨rfl, hL2, hK⟩
          have hR := Lib.hid (hK.blk hR.out rfl)
          have hL2 := Lib.hid hL2
          clear hC hK hL
          go_wp2
          go_roundw
          case rel => exact ⟨k + 1, by omega, by go_num, hL2, hR⟩
          case measure => simp [RowKit.intOf]; omega
        · obtain rfl : k = b := by omega
          have hkb' : ¬ (k : Int) < (k : Int) := by omega
          obtain ⟨t, h1, h2, h3, _⟩ := hL.out.ex
          clear hL
          cases cm
          · have hfit := fits_none (x := x2) (by rw [hx2.out]) h1.tk
            have hCm := Lib.hid (cCommit h1 hN.out h2 (by rw [hx2.out]; exact ⟨Int.le_refl _, by show (0 : Int) ≤ _; omega⟩))
            replace hfit := Lib.hid hfit
            clear h1 h2 h3
            go_wp2_with fail
            refine hCm.out.mono ?_
            rintro e w10 ⟨rfl, y3, V3, hT, hK, _, _, _, hve⟩
            obtain rfl : V3 = V2 := funext fun j => hve j hfit.out
            have hR := Lib.hid (hK.blk hR.out rfl)
            have hdc := Lib.hid hT.lc.dc
            clear hCm hT hK hve
            have hCt := Lib.hid (cCut hdc.out (by omega) (.slice none 0 0) [] (Rd.nil _ _ _) (fun h => absurd rfl h) (by simp))
            clear hdc
            go_wp2_with fail
            refine hCt.out.mono ?_
            rintro e w11 ⟨rfl, hdo, hK⟩
            have hR := Lib.hid (hK.blk hR.out rfl)
            have hOn := Lib.hid (cOn hdo)
            clear hCt hdo hK
            go_wp2_with fail
            refine hOn.out.mono ?_
            rintro e w12 ⟨rfl, hdc, hK⟩
            have hR := Lib.hid (hK.blk hR.out rfl)
            have hOp := Lib.hid (cOpen hdc hN.out h00.out)
            clear hOn hdc hK
            go_wp2_with fail
            refine hOp.out.mono ?_
            rintro e w13 ⟨gl2, rfl, hlc, hK⟩
            have hR := Lib.hid (hK.blk hR.out rfl)
            have hBg := Lib.hid (cBegin hlc rfl)
            clear hOp hlc hK
            go_wp2_with fail
            refine hBg.out.mono ?_
            rintro e w14 ⟨gt3, rfl, ht, hK⟩
            have hR := Lib.hid (hK.blk hR.out rfl)
            have hL := Lib.hid ((ht.fresh1 [1] 1 n).congr (S := ltT i) fun j hj => by rw [← hV2.out j hj]; rfl)
            clear hBg ht hK
            go_wp2_with (with_reducible refine stop_load 29 ?_)
            refine Stop.mk (wpList_load_cells rfl rfl rfl (load_pool hR.out) ?_)
            have hFr := hL.out.free hM.out
            rw [cnt_lt i n (by omega)] at hFr
            have hFr := Lib.hid hFr
            go_wp2_with fail
            refine hFr.out.mono ?_
            rintro e w15 ⟨rfl, hb⟩
            have hbf := Lib.hid (hB1h.out.trans ((hL.out.bel.trans (hb.mono hL.out.bel.size)).mono hB1h.out.size))
            have hwr2 : IntKind.i64.wrap ((n : Int) - (i : Int)) = (n : Int) - (i : Int) := by rw [IntKind.wrap_i64]; omega
            clear hFr hb hL hR
            go_wp2
            go_ret
            exact ⟨rfl, hbf.out⟩
          · have hCm := Lib.hid (cAbort h1 h2)
            clear h1 h2 h3
            go_wp2_with fail
            refine hCm.out.mono ?_
            rintro e w10 ⟨rfl, hT, hK⟩
            have hR := Lib.hid (hK.blk hR.out rfl)
            have hdc := Lib.hid hT.lc.dc
            clear hCm hT hK
            have hCt := Lib.hid (cCut hdc.out (by omega) (.slice none 0 0) [] (Rd.nil _ _ _) (fun h => absurd rfl h) (by simp))
            clear hdc
            go_wp2_with fail
            refine hCt.out.mono ?_
            rintro e w11 ⟨rfl, hdo, hK⟩
            have hR := Lib.hid (hK.blk hR.out rfl)
            have hOn := Lib.hid (cOn hdo)
            clear hCt hdo hK
            go_wp2_with fail
            refine hOn.out.mono ?_
            rintro e w12 ⟨rfl, hdc, hK⟩
            have hR := Lib.hid (hK.blk hR.out rfl)
            have hOp := Lib.hid (cOpen hdc hN.out h00.out)
            clear hOn hdc hK
            go_wp2_with fail
            refine hOp.out.mono ?_
            rintro e w13 ⟨gl2, rfl, hlc, hK⟩
            have hR := Lib.hid (hK.blk hR.out rfl)
            have hBg := Lib.hid (cBegin hlc rfl)
            clear hOp hlc hK
            go_wp2_with fail
            refine hBg.out.mono ?_
            rintro e w14 ⟨gt3, rfl, ht, hK⟩
            have hR := Lib.hid (hK.blk hR.out rfl)
            have hL := Lib.hid ((ht.fresh1 [1] 1 n).congr (S := ltT i) fun j hj => by rw [← hV2.out j hj]; rfl)
            clear hBg ht hK
            go_wp2_with (with_reducible refine stop_load 29 ?_)
            refine Stop.mk (wpList_load_cells rfl rfl rfl (load_pool hR.out) ?_)
            have hFr := hL.out.free hM.out
            rw [cnt_lt i n (by omega)] at hFr
            have hFr := Lib.hid hFr
            go_wp2_with fail
            refine hFr.out.mono ?_
            rintro e w15 ⟨rfl, hb⟩
            have hbf := Lib.hid (hB1h.out.trans ((hL.out.bel.trans (hb.mono hL.out.bel.size)).mono hB1h.out.size))
            have hwr2 : IntKind.i64.wrap ((n : Int) - (i : Int)) = (n : Int) - (i : Int) := by rw [IntKind.wrap_i64]; omega
            clear hFr hb hL hR
            go_wp2
            go_ret
            exact ⟨rfl, hbf.out⟩
end Go.Proofs.Ytefbmbfhhhjgkaa
namespace Go.Proofs.Ytefbmbfhhhjgkaa
open Go.RowKit
section
variable {W0 w w' : World} {gl g gt N : Nat} {x : Lk} {V : Nat → List UInt8} {bl : List Nat} {m n m' n' : Nat} {T T' : Nat → Bool} {X : Nat → Prop} {f : Int}
theorem LT.blocks {t : Tk} (h : LT W0 w gl g gt N x V t X) (hN : 65 < N ∧ N ≤ 16000) : Calls Try.prog 68 #[.pointer (some ⟨gt, 0, none⟩)] w (Ans w (.int .i64 ((N - 65 : Nat) : Int))) := by
  obtain ⟨S, F, ST, FT, q1, q2, _⟩ := h.ex
  exact TBlocks_calls w q1 q2 (by rw [h.la.vw.dl]; omega) (by omega)
theorem P2.at_out (h : P2 W0 w gl g gt N x V bl m n T m' n' T' X) (hM : MapIn N m n f bl) {nn : Int} (hnn : I64 nn) (ho : nn < f ∨ (n : Int) ≤ nn - f) (W : World) (hW : Below w.heap.size w W) :
    Calls Try.prog 39 #[.agg #[.int .i64 (m : Int), .int .i64 f, .int .i64 (n : Int)], .pointer (some ⟨gt, 0, none⟩), .int .i64 nn] W (AtBad W) := by
  obtain ⟨t, h1, _⟩ := (h.below hW).ex
  obtain ⟨hr, _⟩ := hM.hp.right (by have := hM.hN; omega)
  obtain ⟨⟨f1, f2⟩, ⟨n1, n2⟩, m1⟩ := hM.hp
  have hN := hM.hN
  have hm : I64 (m : Int) := ⟨by omega, by omega⟩
  have hf : I64 f := ⟨by omega, by omega⟩
  have hn : I64 (n : Int) := ⟨by omega, by omega⟩
  have hblk : ∀ W', Below W.heap.size W W' → Calls Try.prog 68 #[.pointer (some ⟨gt, 0, none⟩)] W' (Ans W' (.int .i64 ((N - 65 : Nat) : Int))) := fun W' hb => (h1.below hb).blocks hN
  by_cases hlow : nn < f
  · exact at_low W hm hf hn hnn (by omega) hblk hr hlow
  · exact at_high W hm hf hn hnn (by omega) hblk hr hlow f1 (by omega)
theorem P2.give_out (h : P2 W0 w gl g gt N x V bl m n T m' n' T' X) (hM : MapIn N m n f bl) {nn : Int} (hnn : I64 nn) (ho : nn < f ∨ (n : Int) ≤ nn - f) :
    Calls Try.prog 11 #[.agg #[.int .i64 (m : Int), .int .i64 f, .int .i64 (n : Int)], .pointer (some ⟨gt, 0, none⟩), .int .i64 nn] w fun e w' => e = .returned (.int .i64 1) ∧ Below w.heap.size w w' :=
  give_bad w fun W hW => h.at_out hM hnn ho W hW
theorem P2.has_out (h : P2 W0 w gl g gt N x V bl m n T m' n' T' X) (hM : MapIn N m n f bl) {nn : Int} (hnn : I64 nn) (ho : nn < f ∨ (n : Int) ≤ nn - f) :
    Calls Try.prog 18 #[.agg #[.int .i64 (m : Int), .int .i64 f, .int .i64 (n : Int)], .pointer (some ⟨gt, 0, none⟩), .int .i64 nn] w fun e w' => e = .returned (.tuple #[.bool false, .int .i64 1]) ∧ Below w.heap.size w w' :=
  has_bad w fun W hW => h.at_out hM hnn ho W hW
end
theorem Rd.boolAtK {w : World} {A : Option Addr} {n c : Nat} {us : List Bool} (h : Rd w (.slice A n c) (us.map Value.bool)) {k : Nat} (hk : k < us.length) : ∃ ad, A = some ad ∧ w.cell? (ad.add k) = some (.bool us[k]) := by
  obtain ⟨ad, c', e, hc⟩ := h.cell (j := k) (by simpa using hk)
  injection e with e1 _ _
  exact ⟨ad, e1, by rw [hc]; simp⟩
set_option maxRecDepth 100000 in
set_option maxHeartbeats 16000000 in
theorem AllocApart_calls (w : World) {n0 n1 : Int} {x2 : Value} {ys : List Bool} (ww0 : (Lit.int .i64 n0).wf = true) (ww1 : (Lit.int .i64 n1).wf = true) (xx2 : Rd w x2 (ys.map Value.bool)) (ll2 : ys.length ≤ 9223372036854775807) :
    Calls Try.prog 4 #[.int .i64 n0, .int .i64 n1, x2] w fun e w' => e = .returned (.bool true) ∧ Below w.heap.size w w' := by
  obtain ⟨k0, l0⟩ := wf64K ww0
  obtain ⟨k1, l1⟩ := wf64K ww1
  obtain ⟨xA, xc, rfl⟩ : ∃ A c, x2 = .slice A ys.length c := by
    obtain ⟨A, c, rfl, _⟩ := xx2
    exact ⟨A, c, by simp⟩
  have hx2 := Lib.hid xx2
  obtain ⟨L, hLn⟩ : ∃ L, Hid (ys.length = L) := ⟨_, Lib.hid rfl⟩
  rw [hLn.out] at hx2 ll2 ⊢
  clear ww0 ww1 xx2
  go_enter Try.func4, Try.ntmps4
  go_wp2_with fail
  refine (known_calls w).mono ?_
  rintro e w1 ⟨rfl, hB1⟩
  have hB1h := Lib.hid hB1
  clear hB1
  by_cases b1 : n0 < 1
  · go_wp2
    go_ret
    exact ⟨rfl, hB1h.out⟩
  by_cases b2 : 60 < n0
  · go_wp2
    go_ret
    exact ⟨rfl, hB1h.out⟩
  by_cases b3 : n1 < 1
  · go_wp2
    go_ret
    exact ⟨rfl, hB1h.out⟩
  by_cases b4 : 60 < n1
  · go_wp2
    go_ret
    exact ⟨rfl, hB1h.out⟩
  by_cases b5 : (100 : Int) < (L : Int)
  · go_wp2
    go_ret
    exact ⟨rfl, hB1h.out⟩
  obtain ⟨n, rfl⟩ : ∃ n : Nat, (n : Int) = n0 := ⟨n0.toNat, by omega⟩
  obtain ⟨m, rfl⟩ : ∃ n : Nat, (n : Int) = n1 := ⟨n1.toNat, by omega⟩
  have hM : Hid (MapIn 100 0 n 10 [0, 1]) := Lib.hid ⟨by omega, ⟨by omega, by omega, by omega⟩, by decide, fun k hk => by
    have : k = 0 := by omega
    subst this
    simp⟩
  have hM2 : Hid (MapIn 100 1 m (10 + (n : Int)) [0, 1]) := Lib.hid ⟨by omega, ⟨by omega, by omega, by omega⟩, by decide, fun k hk => by
    have : k = 0 := by omega
    subst this
    simp⟩
  have hA1 : Hid (Apt 0 n 1 m) := Lib.hid fun k hk j hj => by omega
  have hA2 : Hid (Apt 1 m 0 n) := Lib.hid fun k hk j hj => by omega
  have hMk := Lib.hid (made_calls w1 100 (by omega))
  go_wp2_with fail
  refine hMk.out.mono ?_
  rintro e w2 ⟨gl, g, gt, d, rfl, hL0⟩
  have hL := Lib.hid (hL0.fresh2 [0, 1] 0 n 1 m)
  obtain ⟨x, hx⟩ : ∃ x : Lk, Hid (x = begK d) := ⟨_, Lib.hid rfl⟩
  obtain ⟨V, hV⟩ : ∃ V, Hid (V = fmtV) := ⟨_, Lib.hid rfl⟩
  rw [← hx.out, ← hV.out] at hL
  obtain ⟨T0, hT0⟩ : ∃ T0 : Nat → Bool, (fun i => bitAt (datP x V (0 + i / 4096)) (i % 4096)) = T0 := ⟨_, rfl⟩
  rw [hT0] at hL
  obtain ⟨T1, hT1⟩ : ∃ T1 : Nat → Bool, (fun i => bitAt (datP x V (1 + i / 4096)) (i % 4096)) = T1 := ⟨_, rfl⟩
  rw [hT1] at hL
  have hwn : IntKind.i64.wrap (10 + (n : Int)) = 10 + (n : Int) := by rw [IntKind.wrap_i64]; omega
  clear hMk hT0 hT1 hL0
  go_wp2_with (with_reducible refine stop_store 29 ?_)
  obtain ⟨hz, hR, hB⟩ := pool_row w2 (0) (10) ((n : Int))
  refine Stop.mk (wpList_store_row rfl 29 _ _ rfl w2.heap.size #[.int .i64 (0), .int .i64 (10), .int .i64 ((n : Int))] rfl rfl 29 #[.int .i64 0, .int .i64 0, .int .i64 0] hz (by kernel_rfl) rfl (by simp [Value.oneCell']) ?_)
  clear hz
  have hsz : w2.heap.size < (World.setRow (w2.alloc (.cells #[.int .i64 0, .int .i64 0, .int .i64 0] 29)) w2.heap.size #[.int .i64 (0), .int .i64 (10), .int .i64 ((n : Int))]).heap.size := hR.lt
  generalize (World.setRow (w2.alloc (.cells #[.int .i64 0, .int .i64 0, .int .i64 0] 29)) w2.heap.size #[.int .i64 (0), .int .i64 (10), .int .i64 ((n : Int))]) = w3 at *
  obtain ⟨q1, hq⟩ : ∃ q, w2.heap.size = q := ⟨_, rfl⟩
  have hL := Lib.hid (hL.out.more hB (Y := fun k => k = q1) fun k hk => .inr ⟨by rw [hk, hq]; exact Nat.le_refl _, by rw [hk, ← hq]; exact hsz⟩)
  rw [hq] at hR ⊢
  have hR1 := Lib.hid hR
  clear hB hsz hq hR
  go_wp2_with (with_reducible refine stop_store 29 ?_)
  obtain ⟨hz, hR, hB⟩ := pool_row w3 (1) (10 + (n : Int)) ((m : Int))
  refine Stop.mk (wpList_store_row rfl 29 _ _ rfl w3.heap.size #[.int .i64 (1), .int .i64 (10 + (n : Int)), .int .i64 ((m : Int))] rfl rfl 29 #[.int .i64 0, .int .i64 0, .int .i64 0] hz (by kernel_rfl) rfl (by simp [Value.oneCell']) ?_)
  clear hz
  have hsz : w3.heap.size < (World.setRow (w3.alloc (.cells #[.int .i64 0, .int .i64 0, .int .i64 0] 29)) w3.heap.size #[.int .i64 (1), .int .i64 (10 + (n : Int)), .int .i64 ((m : Int))]).heap.size := hR.lt
  generalize (World.setRow (w3.alloc (.cells #[.int .i64 0, .int .i64 0, .int .i64 0] 29)) w3.heap.size #[.int .i64 (1), .int .i64 (10 + (n : Int)), .int .i64 ((m : Int))]) = w4 at *
  obtain ⟨q2, hq⟩ : ∃ q, w3.heap.size = q := ⟨_, rfl⟩
  have hL := Lib.hid (hL.out.more hB (Y := fun k => k = q1 ∨ k = q2) fun k hk => hk.imp id fun hk => ⟨by rw [hk, hq]; exact Nat.le_refl _, by rw [hk, ← hq]; exact hsz⟩)
  rw [hq] at hR ⊢
  have hR1 := Lib.hid (blk_below hR1.out hB)
  have hR2 := Lib.hid hR
  clear hB hsz hq hR
  go_wp2_with (with_reducible refine stop_load 29 ?_)
  refine Stop.mk (wpList_load_cells rfl rfl rfl (load_pool hR1.out) ?_)
  have hC := Lib.hid (hL.out.clear hM.out hA1.out)
  clear hL
  go_wp2_with fail
  refine hC.out.mono ?_
  rintro e w5 ⟨rfl, hL, hK⟩
  have hR1 := Lib.hid (hK.blk hR1.out (.inl rfl))
  have hR2 := Lib.hid (hK.blk hR2.out (.inr rfl))
  have hL := Lib.hid (hL.congr (S := ltT 0) fun i _ => (decide_eq_false (Nat.not_lt_zero i)).symm)
  clear hC hK
  go_wp2_with (with_reducible refine stop_load 29 ?_)
  refine Stop.mk (wpList_load_cells_g rfl rfl rfl (load_pool hR2.out) ?_)
  have hC := Lib.hid (hL.out.swap.clear hM2.out hA2.out)
  clear hL
  go_wp2_with fail
  refine hC.out.mono ?_
  rintro e w6 ⟨rfl, hL, hK⟩
  have hR1 := Lib.hid (hK.blk hR1.out (.inl rfl))
  have hR2 := Lib.hid (hK.blk hR2.out (.inr rfl))
  have hL := Lib.hid (hL.congr (S := ltT 0) fun i _ => (decide_eq_false (Nat.not_lt_zero i)).symm).swap
  clear hC hK
  go_wp2
  go_loopw [13, 11, 12] (fun iv av bv wr => ∃ (j a b : Nat), j ≤ L ∧ a ≤ n ∧ b ≤ m ∧ iv = .int .i64 (j : Int) ∧ av = .int .i64 (a : Int) ∧ bv = .int .i64 (b : Int) ∧ Hid (P2 w1 wr gl g gt 100 x V [0, 1] 0 n (ltT a) 1 m (ltT b) (fun k => k = q1 ∨ k = q2)) ∧ Hid (Blk wr q1 29 #[.int .i64 0, .int .i64 10, .int .i64 (n : Int)]) ∧ Hid (Blk wr q2 29 #[.int .i64 1, .int .i64 (10 + (n : Int)), .int .i64 (m : Int)])) (fun iv _ _ _ => L - (RowKit.intOf iv).toNat)
  case atStart => exact ⟨0, 0, 0, Nat.zero_le _, Nat.zero_le _, Nat.zero_le _, rfl, rfl, rfl, hL, hR1, hR2⟩
  case round =>
    clear hL hR1 hR2
    obtain ⟨j, a, b, hj, ha, hb, rfl, rfl, rfl, hL, hR1, hR2⟩ := hrel
    by_cases hjL : j < L
    · have hjL' : (j : Int) < (L : Int) := by omega
      have hjl : j < ys.length := by rw [hLn.out]; exact hjL
      obtain ⟨ad, rfl, hcv⟩ := (hx2.out.below (hB1h.out.trans (hL.out.bel.mono hB1h.out.size))).boolAtK hjl
      cases hv : ys[j]'hjl with
      | true =>
        rw [hv] at hcv
        by_cases hab : a < n
        · have hab' : (a : Int) < (n : Int) := by omega
          have hwx : IntKind.i64.wrap (10 + (a : Int)) = 10 + (a : Int) := by rw [IntKind.wrap_i64]; omega
          have hC := Lib.hid (hL.out.take_lt hM.out hA1.out hab)
          go_wp2_with (with_reducible refine stop_load 29 ?_)
          refine Stop.mk (wpList_load_cells rfl rfl rfl (load_pool hR1.out) ?_)
          go_wp2_with fail
          refine hC.out.mono ?_
          rintro e w9 ⟨rfl, hL2, hK⟩
          have hR1 := Lib.hid (hK.blk hR1.out (.inl rfl))
          have hR2 := Lib.hid (hK.blk hR2.out (.inr rfl))
          have hL2 := Lib.hid hL2
          clear hC hK hL hcv
          go_wp2
          go_roundw
          case rel => exact ⟨j + 1, a + 1, b, by omega, by omega, by omega, by go_num, by go_num, rfl, hL2, hR1, hR2⟩
          case measure => simp [RowKit.intOf]; omega
        · obtain rfl : a = n := by omega
          have hab' : ¬ (a : Int) < (a : Int) := by omega
          have hC := Lib.hid (hL.out.take_no hM.out hA1.out)
          go_wp2_with (with_reducible refine stop_load 29 ?_)
          refine Stop.mk (wpList_load_cells rfl rfl rfl (load_pool hR1.out) ?_)
          go_wp2_with fail
          refine hC.out.mono ?_
          rintro e w9 ⟨rfl, hL2, hK⟩
          have hR1 := Lib.hid (hK.blk hR1.out (.inl rfl))
          have hR2 := Lib.hid (hK.blk hR2.out (.inr rfl))
          have hL2 := Lib.hid hL2
          clear hC hK hL hcv
          go_wp2
          go_roundw
          case rel => exact ⟨j + 1, a, b, by omega, by omega, by omega, by go_num, rfl, rfl, hL2, hR1, hR2⟩
          case measure => simp [RowKit.intOf]; omega
      | false =>
        rw [hv] at hcv
        by_cases hab : b < m
        · have hab' : (b : Int) < (m : Int) := by omega
          have hwx : IntKind.i64.wrap (10 + (n : Int) + (b : Int)) = 10 + (n : Int) + (b : Int) := by rw [IntKind.wrap_i64]; omega
          have hC := Lib.hid (hL.out.swap.take_lt hM2.out hA2.out hab)
          go_wp2_with (with_reducible refine stop_load 29 ?_)
          refine Stop.mk (wpList_load_cells rfl rfl rfl (load_pool hR2.out) ?_)
          go_wp2_with fail
          refine hC.out.mono ?_
          rintro e w9 ⟨rfl, hL2, hK⟩
          have hR1 := Lib.hid (hK.blk hR1.out (.inl rfl))
          have hR2 := Lib.hid (hK.blk hR2.out (.inr rfl))
          have hL2 := Lib.hid hL2.swap
          clear hC hK hL hcv
          go_wp2
          go_roundw
          case rel => exact ⟨j + 1, a, b + 1, by omega, by omega, by omega, by go_num, rfl, by go_num, hL2, hR1, hR2⟩
          case measure => simp [RowKit.intOf]; omega
        · obtain rfl : b = m := by omega
          have hab' : ¬ (b : Int) < (b : Int) := by omega
          have hC := Lib.hid (hL.out.swap.take_no hM2.out hA2.out)
          go_wp2_with (with_reducible refine stop_load 29 ?_)
          refine Stop.mk (wpList_load_cells rfl rfl rfl (load_pool hR2.out) ?_)
          go_wp2_with fail
          refine hC.out.mono ?_
          rintro e w9 ⟨rfl, hL2, hK⟩
          have hR1 := Lib.hid (hK.blk hR1.out (.inl rfl))
          have hR2 := Lib.hid (hK.blk hR2.out (.inr rfl))
          have hL2 := Lib.hid hL2.swap
          clear hC hK hL hcv
          go_wp2
          go_roundw
          case rel => exact ⟨j + 1, a, b, by omega, by omega, by omega, by go_num, rfl, rfl, hL2, hR1, hR2⟩
          case measure => simp [RowKit.intOf]; omega
    · obtain rfl : L = j := by omega
      have hjL' : ¬ (L : Int) < (L : Int) := by omega
      have hwa : IntKind.i64.wrap ((n : Int) - (a : Int)) = (n : Int) - (a : Int) := by rw [IntKind.wrap_i64]; omega
      have hwb : IntKind.i64.wrap ((m : Int) - (b : Int)) = (m : Int) - (b : Int) := by rw [IntKind.wrap_i64]; omega
      have hw9 : IntKind.i64.wrap (9 + (n : Int)) = 9 + (n : Int) := by rw [IntKind.wrap_i64]; omega
      have hFr := hL.out.free hM.out
      rw [cnt_lt a n ha] at hFr
      have hFr := Lib.hid hFr
      go_wp2_with (with_reducible refine stop_load 29 ?_)
      refine Stop.mk (wpList_load_cells rfl rfl rfl (load_pool hR1.out) ?_)
      go_wp2_with fail
      refine hFr.out.mono ?_
      rintro e w9 ⟨rfl, hb9⟩
      have hL := Lib.hid (hL.out.below hb9)
      have hR1 := Lib.hid (blk_below hR1.out hb9)
      have hR2 := Lib.hid (blk_below hR2.out hb9)
      have hFr2 := hL.out.swap.free hM2.out
      rw [cnt_lt b m hb] at hFr2
      have hFr2 := Lib.hid hFr2
      clear hFr hb9
      go_wp2_with (with_reducible refine stop_load 29 ?_)
      refine Stop.mk (wpList_load_cells rfl rfl rfl (load_pool hR2.out) ?_)
      go_wp2_with fail
      refine hFr2.out.mono ?_
      rintro e w10 ⟨rfl, hb9⟩
      have hL := Lib.hid (hL.out.below hb9)
      have hR1 := Lib.hid (blk_below hR1.out hb9)
      have hR2 := Lib.hid (blk_below hR2.out hb9)
      have hG := Lib.hid (hL.out.give_out hM.out (nn := 10 + (n : Int)) ⟨by omega, by omega⟩ (.inr (by omega)))
      clear hFr2 hb9
      go_wp2_with (with_reducible refine stop_load 29 ?_)
      refine Stop.mk (wpList_load_cells_g rfl rfl rfl (load_pool hR1.out) ?_)
      go_wp2_with fail
      refine hG.out.mono ?_
      rintro e w11 ⟨rfl, hb9⟩
      have hL := Lib.hid (hL.out.below hb9)
      have hR2 := Lib.hid (blk_below hR2.out hb9)
      have hG2 := Lib.hid (hL.out.swap.give_out hM2.out (nn := 9 + (n : Int)) ⟨by omega, by omega⟩ (.inl (by omega)))
      clear hG hb9
      go_wp2_with (with_reducible refine stop_load 29 ?_)
      refine Stop.mk (wpList_load_cells_g rfl rfl rfl (load_pool hR2.out) ?_)
      go_wp2_with fail
      refine hG2.out.mono ?_
      rintro e w12 ⟨rfl, hb9⟩
      have hbf := Lib.hid (hB1h.out.trans ((hL.out.bel.trans (hb9.mono hL.out.bel.size)).mono hB1h.out.size))
      clear hG2 hb9 hL hR1 hR2
      go_wp2
      go_ret
      exact ⟨rfl, hbf.out⟩
end Go.Proofs.Ytefbmbfhhhjgkaa
namespace Go.Proofs.Ytefbmbfhhhjgkaa
open Go.RowKit
theorem Try.info_bool : (Try.prog.info? 4).map (fun i => (i.zero, i.size, i.bytes)) = some (some (.bool false), 1, 1) := by kernel_rfl
def bls (l : List Bool) : Array Value := (l.map Value.bool).toArray
theorem bls_set (l : List Bool) (k : Nat) (b : Bool) : (bls l).setIfInBounds k (.bool b) = bls (l.set k b) := by
  unfold bls
  simp [List.map_set]
theorem bls_at (l : List Bool) (k : Nat) (h : k < l.length) : (bls l)[k]? = some (.bool (l.getD k false)) := by
  unfold bls
  simp [h]
theorem Rd.intAtK {w : World} {A : Option Addr} {n c : Nat} {us : List Int} (h : Rd w (.slice A n c) (us.map (Value.int .i64))) {k : Nat} (hk : k < us.length) : ∃ ad, A = some ad ∧ w.cell? (ad.add k) = some (.int .i64 us[k]) := by
  obtain ⟨ad, c', e, hc⟩ := h.cell (j := k) (by simpa using hk)
  injection e with e1 _ _
  exact ⟨ad, e1, by rw [hc]; simp⟩
/-- All are taken but those that were given back. -/
def frT (fr : List Bool) : Nat → Bool := fun j => !(fr.getD j false)
theorem frT_set {fr : List Bool} {k : Nat} (hk : k < fr.length) (h : fr.getD k false = false) (j : Nat) : flipT (frT fr) k j = frT (fr.set k true) j := by
  unfold flipT frT
  by_cases e : j = k
  · subst e
    rw [if_pos rfl, h]
    simp [List.getD_eq_getElem?_getD, hk]
  · rw [if_neg e]
    simp [List.getD_eq_getElem?_getD, List.getElem?_set, Ne.symm e]
theorem set_same {fr : List Bool} {k : Nat} (hk : k < fr.length) (h : fr.getD k false = true) : fr.set k true = fr := by
  have : fr[k] = true := by simpa [List.getD_eq_getElem?_getD, hk] using h
  rw [← this, List.set_getElem_self]
theorem count_new {fr : List Bool} {k : Nat} (hk : k < fr.length) (h : fr.getD k false = false) : (fr.set k true).count true = fr.count true + 1 := by
  have : fr[k] = false := by simpa [List.getD_eq_getElem?_getD, hk] using h
  rw [List.count_set hk, this]
  simp
/-- .. and the first of those are taken again. -/
def fjT (fr : List Bool) (i : Nat) : Nat → Bool := fun j => decide (j < i) || frT fr j
theorem fjT_least {fr : List Bool} {i n : Nat} (hi : i < n) (h : fr.getD i false = true) : leastG (fjT fr i) n 0 = some i :=
  leastG_of (Nat.zero_le _) (by omega) (by unfold fjT frT; rw [h]; simp) fun k _ hk => by unfold fjT; rw [decide_eq_true hk]; rfl
theorem fjT_flip {fr : List Bool} {i : Nat} (h : fr.getD i false = true) (j : Nat) : flipT (fjT fr i) i j = fjT fr (i + 1) j := by
  unfold flipT fjT frT
  by_cases e : j = i
  · subst e
    rw [if_pos rfl, h]
    simp
  · rw [if_neg e, decide_eq_decide.2 (show j < i ↔ j < i + 1 by omega)]
theorem fjT_skip {fr : List Bool} {i : Nat} (h : fr.getD i false = false) (j : Nat) : fjT fr i j = fjT fr (i + 1) j := by
  unfold fjT frT
  by_cases e : j = i
  · subst e
    rw [h]
    simp
  · rw [decide_eq_decide.2 (show j < i ↔ j < i + 1 by omega)]
theorem fjT_cnt (fr : List Bool) (n : Nat) : cntT (fjT fr n) n = n := by
  rw [cntT_congr (T' := ltT n) (fun i hi => by unfold fjT ltT; rw [decide_eq_true hi]; rfl), cnt_lt n n (Nat.le_refl _)]
set_option maxRecDepth 100000 in
set_option maxHeartbeats 16000000 in
theorem AllocAll_calls (w : World) {n0 n1 : Int} {x2 : Value} {ys : List Int} (ww0 : (Lit.int .i64 n0).wf = true) (ww1 : (Lit.int .i64 n1).wf = true) (xx2 : Rd w x2 (ys.map (Value.int .i64))) (ll2 : ys.length ≤ 9223372036854775807) (ww2 : ∀ n ∈ ys, (Lit.int .i64 n).wf = true) :
    Calls Try.prog 3 #[.int .i64 n0, .int .i64 n1, x2] w fun e w' => e = .returned (.bool true) ∧ Below w.heap.size w w' := by
  obtain ⟨k0, l0⟩ := wf64K ww0
  obtain ⟨k1, l1⟩ := wf64K ww1
  obtain ⟨xA, xc, rfl⟩ : ∃ A c, x2 = .slice A ys.length c := by
    obtain ⟨A, c, rfl, _⟩ := xx2
    exact ⟨A, c, by simp⟩
  have hx2 := Lib.hid xx2
  have hww := Lib.hid ww2
  obtain ⟨L, hLn⟩ : ∃ L, Hid (ys.length = L) := ⟨_, Lib.hid rfl⟩
  rw [hLn.out] at hx2 ll2 ⊢
  clear ww0 ww1 xx2 ww2
  go_enter Try.func3, Try.ntmps3
  go_wp2_with fail
  refine (known_calls w).mono ?_
  rintro e w1 ⟨rfl, hB1⟩
  have hB1h := Lib.hid hB1
  clear hB1
  by_cases b1 : n0 < 1
  · go_wp2
    go_ret
    exact ⟨rfl, hB1h.out⟩
  by_cases b2 : 300 < n0
  · go_wp2
    go_ret
    exact ⟨rfl, hB1h.out⟩
  by_cases b3 : n1 < 0
  · go_wp2
    go_ret
    exact ⟨rfl, hB1h.out⟩
  by_cases b4 : 1048576 < n1
  · go_wp2
    go_ret
    exact ⟨rfl, hB1h.out⟩
  by_cases b5 : (60 : Int) < (L : Int)
  · go_wp2
    go_ret
    exact ⟨rfl, hB1h.out⟩
  obtain ⟨n, rfl⟩ : ∃ n : Nat, (n : Int) = n0 := ⟨n0.toNat, by omega⟩
  have hM : Hid (MapIn 80 0 n n1 [0]) := Lib.hid ⟨by omega, ⟨by omega, by omega, by omega⟩, by decide, fun k hk => by
    have : k = 0 := by omega
    subst this
    exact List.mem_cons_self⟩
  have hMk := Lib.hid (made_calls w1 80 (by omega))
  go_wp2_with fail
  refine hMk.out.mono ?_
  rintro e w2 ⟨gl, g, gt, d, rfl, hL⟩
  have hL := Lib.hid (hL.fresh1 [0] 0 n)
  obtain ⟨x, hx⟩ : ∃ x : Lk, Hid (x = begK d) := ⟨_, Lib.hid rfl⟩
  obtain ⟨V, hV⟩ : ∃ V, Hid (V = fmtV) := ⟨_, Lib.hid rfl⟩
  rw [← hx.out, ← hV.out] at hL
  obtain ⟨T0, hT0⟩ : ∃ T0 : Nat → Bool, (fun i => bitAt (datP x V (0 + i / 4096)) (i % 4096)) = T0 := ⟨_, rfl⟩
  rw [hT0] at hL
  clear hMk hT0
  go_wp2_with (with_reducible refine stop_store 29 ?_)
  obtain ⟨hz, hR, hB⟩ := pool_row w2 (0) (n1) ((n : Int))
  refine Stop.mk (wpList_store_row rfl 29 _ _ rfl w2.heap.size #[.int .i64 (0), .int .i64 (n1), .int .i64 ((n : Int))] rfl rfl 29 #[.int .i64 0, .int .i64 0, .int .i64 0] hz (by kernel_rfl) rfl (by simp [Value.oneCell']) ?_)
  clear hz
  have hsz : w2.heap.size < (World.setRow (w2.alloc (.cells #[.int .i64 0, .int .i64 0, .int .i64 0] 29)) w2.heap.size #[.int .i64 (0), .int .i64 (n1), .int .i64 ((n : Int))]).heap.size := hR.lt
  generalize (World.setRow (w2.alloc (.cells #[.int .i64 0, .int .i64 0, .int .i64 0] 29)) w2.heap.size #[.int .i64 (0), .int .i64 (n1), .int .i64 ((n : Int))]) = w3 at *
  obtain ⟨q, hq⟩ : ∃ q, w2.heap.size = q := ⟨_, rfl⟩
  have hL := Lib.hid (hL.out.more hB (Y := fun k => k = q) fun k hk => .inr ⟨by rw [hk, hq]; exact Nat.le_refl _, by rw [hk, ← hq]; exact hsz⟩)
  rw [hq] at hR ⊢
  have hR := Lib.hid hR
  clear hB hsz hq
  go_wp2_with (with_reducible refine stop_load 29 ?_)
  refine Stop.mk (wpList_load_cells_g rfl rfl rfl (load_pool hR.out) ?_)
  have hC := Lib.hid (hL.out.clear hM.out (Apt.zero _ _ _))
  clear hL
  go_wp2_with fail
  refine hC.out.mono ?_
  rintro e w4 ⟨rfl, hL, hK⟩
  have hR := Lib.hid (hK.blk hR.out rfl)
  have hL := Lib.hid (hL.congr (S := ltT 0) fun i _ => (decide_eq_false (Nat.not_lt_zero i)).symm)
  clear hC hK
  go_wp2
  go_loopw [10] (fun iv wr => ∃ i : Nat, i ≤ n ∧ iv = .int .i64 (i : Int) ∧ Hid (P2 w1 wr gl g gt 80 x V [0] 0 n (ltT i) 0 0 (fun _ => false) (fun k => k = q)) ∧ Hid (Blk wr q 29 #[.int .i64 0, .int .i64 n1, .int .i64 (n : Int)])) (fun iv _ => n - (RowKit.intOf iv).toNat)
  case atStart => exact ⟨0, Nat.zero_le _, rfl, hL, hR⟩
  case round =>
    clear hL hR
    obtain ⟨i, hi, rfl, hL, hR⟩ := hrel
    by_cases hia : i < n
    · have hia' : (i : Int) < (n : Int) := by omega
      have hwr : IntKind.i64.wrap (n1 + (i : Int)) = n1 + (i : Int) := by rw [IntKind.wrap_i64]; omega
      have hC := Lib.hid (hL.out.take_lt hM.out (Apt.zero _ _ _) (by omega))
      go_wp2_with (with_reducible refine stop_load 29 ?_)
      refine Stop.mk (wpList_load_cells rfl rfl rfl (load_pool hR.out) ?_)
      go_wp2_with fail
      refine hC.out.mono ?_
      rintro e w7 ⟨rfl, hL2, hK⟩
      have hR := Lib.hid (hK.blk hR.out rfl)
      have hL2 := Lib.hid hL2
      clear hC hK hL
      go_wp2
      go_roundw
      case rel => exact ⟨i + 1, by omega, by go_num, hL2, hR⟩
      case measure => simp [RowKit.intOf]; omega
    · obtain rfl : i = n := by omega
      have hia' : ¬ (i : Int) < (i : Int) := by omega
      have hC := Lib.hid (hL.out.take_no hM.out (Apt.zero _ _ _))
      go_wp2_with (with_reducible refine stop_load 29 ?_)
      refine Stop.mk (wpList_load_cells rfl rfl rfl (load_pool hR.out) ?_)
      go_wp2_with fail
      refine hC.out.mono ?_
      rintro e w7 ⟨rfl, hL2, hK⟩
      have hR := Lib.hid (hK.blk hR.out rfl)
      obtain ⟨ib, hi0, hz0, hz1, hz2⟩ := info_parts Try.info_bool
      have hmk0 := run_mkr (P := Try.prog) 34 4 ib (.bool false) Try.underlying34 hi0 hz0 rfl hz1 i (by rw [hz2]; omega) (by omega) w7
      have hmk : Sem.run Try.prog (Instr.makeSlice 34 (.int .i64 (i : Int)) (.int .i64 (i : Int))) w7 = .ok (.slice (some ⟨w7.heap.size, 0, none⟩) i i) (w7.alloc (.cells (bls (List.replicate i false)) 4)) := by
        have e : (List.replicate i (Value.bool false)).toArray = bls (List.replicate i false) := by
          unfold bls; rw [List.map_replicate]
        rw [← e]
        exact hmk0
      have hF : Blk (w7.alloc (.cells (bls (List.replicate i false)) 4)) w7.heap.size 4 (bls (List.replicate i false)) := Blk.new _ _ _
      have hb8 : Below w7.heap.size w7 (w7.alloc (.cells (bls (List.replicate i false)) 4)) := (Below.refl _ _).alloc (Nat.le_refl _) _
      have hg1 : Hid (w1.heap.size ≤ w7.heap.size) := Lib.hid hL2.bel.size
      obtain ⟨gf, hgf⟩ : ∃ gf, w7.heap.size = gf := ⟨_, rfl⟩
      have hsz8 : gf < (w7.alloc (.cells (bls (List.replicate i false)) 4)).heap.size := by rw [← hgf]; exact hF.lt
      have hR := Lib.hid (blk_below hR.out hb8)
      have hL := Lib.hid ((hL2.more hb8 (Y := fun k => k = q ∨ k = gf) fun k hk => hk.imp id fun e => ⟨by rw [e, hgf]; exact Nat.le_refl _, by rw [e]; exact hsz8⟩).congr (S := frT (List.replicate i false)) fun j hj => by
        unfold ltT frT
        rw [decide_eq_true hj, List.getD_eq_getElem?_getD, List.getElem?_replicate]
        split <;> rfl)
      rw [hgf] at hF hmk hg1
      have hF := Lib.hid hF
      clear hC hK hL2 hb8 hsz8 hmk0 hi0 hz0 hz1 hz2 hgf
      generalize w7.alloc (.cells (bls (List.replicate i false)) 4) = w8 at *
      go_wp2
      clear hmk
      go_loopw [17, 16] (fun iv cv wr => ∃ (j c : Nat) (fr : List Bool), j ≤ L ∧ iv = .int .i64 (j : Int) ∧ cv = .int .i64 (c : Int) ∧ Hid (fr.length = i) ∧ Hid (c ≤ fr.count true) ∧ Hid (P2 w1 wr gl g gt 80 x V [0] 0 i (frT fr) 0 0 (fun _ => false) (fun k => k = q ∨ k = gf)) ∧ Hid (Blk wr q 29 #[.int .i64 0, .int .i64 n1, .int .i64 (i : Int)]) ∧ Hid (Blk wr gf 4 (bls fr))) (fun iv _ _ => L - (RowKit.intOf iv).toNat)
      case atStart => exact ⟨0, 0, _, Nat.zero_le _, rfl, rfl, Lib.hid (List.length_replicate ..), Lib.hid (Nat.zero_le _), hL, hR, hF⟩
      case round =>
        clear hL hR hF
        obtain ⟨j, c, fr, hj, rfl, rfl, hfl, hcc, hL, hR, hF⟩ := hrel
        have hc3 : c ≤ 300 := by
          have h1 := hcc.out
          have h2 := List.count_le_length (a := true) (l := fr)
          have h3 := hfl.out
          omega
        by_cases hjL : j < L
        · have hjL' : (j : Int) < (L : Int) := by omega
          have hjl : j < ys.length := by rw [hLn.out]; exact hjL
          obtain ⟨ad, rfl, hcv⟩ := (hx2.out.below (hB1h.out.trans (hL.out.bel.mono hB1h.out.size))).intAtK hjl
          obtain ⟨v1, v2⟩ := wf64K (hww.out _ (List.getElem_mem hjl))
          obtain ⟨v, hv⟩ : ∃ v, Hid (ys[j]'hjl = v) := ⟨_, Lib.hid rfl⟩
          rw [hv.out] at hcv v1 v2
          have hq1 : Int.tmod v (i : Int) < (i : Int) := Int.tmod_lt_of_pos _ (by omega)
          have hq2 : -(i : Int) < Int.tmod v (i : Int) := Int.lt_tmod_of_pos _ (by omega)
          have hi0 : (i : Int) ≠ 0 := by omega
          by_cases hneg : Int.tmod v (i : Int) < 0
          · obtain ⟨k, hk⟩ : ∃ k : Nat, IntKind.i64.wrap (Int.tmod v (i : Int) + (i : Int)) = (k : Int) ∧ (k : Int) = Int.tmod v (i : Int) + (i : Int) := ⟨(Int.tmod v (i : Int) + (i : Int)).toNat, by rw [IntKind.wrap_i64]; omega, by omega⟩
            obtain ⟨hk, hk2⟩ := hk
            have hki : k < i := by omega
            have hkl : Hid (k < fr.length) := Lib.hid (by rw [hfl.out]; exact hki)
            have hwf : IntKind.i64.wrap (n1 + (k : Int)) = n1 + (k : Int) := by rw [IntKind.wrap_i64]; omega
            have hwc : IntKind.i64.wrap ((c : Int) + 1) = (c : Int) + 1 := by rw [IntKind.wrap_i64]; omega
            clear hk2 hq1 hq2 v1 v2
            cases hfk : fr.getD k false with
            | false =>
              have hC := Lib.hid ((hL.out.give hM.out (Apt.zero _ _ _) hki).mono (R' := fun e w' => e = .returned (.int .i64 0) ∧ P2 w1 w' gl g gt 80 x V [0] 0 i (frT (fr.set k true)) 0 0 (fun _ => false) (fun k => k = q ∨ k = gf) ∧ KeepX (fun k => k = q ∨ k = gf) wr w') (by
                rintro e w' (⟨_, b, c, d⟩ | ⟨a, _⟩)
                · exact ⟨b, c.congr fun j _ => frT_set hkl.out hfk j, d⟩
                · unfold frT at a; rw [hfk] at a; cases a))
              go_wp2_with (with_reducible refine stop_load 29 ?_)
              refine Stop.mk (wpList_load_cells rfl rfl rfl (load_pool hR.out) ?_)
              go_wp2_with fail
              refine hC.out.mono ?_
              rintro e w9 ⟨rfl, hL2, hK⟩
              have hR := hK.blk hR.out (.inl rfl)
              have hF := hK.blk hF.out (.inr rfl)
              have hcell := (hF.cell k).trans (bls_at fr k hkl.out)
              rw [hfk] at hcell
              have hfz := hF.frozen k
              have hset := hF.set_ k (.bool true)
              rw [bls_set] at hset
              have hch : Chg (fun j => j = gf) w9 (w9.setCell ⟨gf, k, none⟩ (.bool true)) := (Chg.refl (fun j => j = gf) w9).setCell (p := ⟨gf, k, none⟩) (fun _ => rfl) _
              have hL3 := Lib.hid (hL2.own hch (fun m hm => ⟨.inr hm, by rw [show m = gf from hm]; exact hg1.out⟩) (fun m cs hb hm => by subst hm; cases hF.symm.trans hb) (fun m cs hb hm => by subst hm; cases hF.symm.trans hb))
              have hR3 := Lib.hid (hR.far (p := ⟨gf, k, none⟩) (fun e => (hR.ne_ hF (by decide)) e) (.bool true))
              have hF3 := Lib.hid hset
              have hc4 : Hid (c + 1 ≤ (fr.set k true).count true) := Lib.hid (by rw [count_new hkl.out hfk]; exact Nat.succ_le_succ hcc.out)
              have hfl2 : Hid ((fr.set k true).length = i) := Lib.hid (by rw [List.length_set]; exact hfl.out)
              clear hC hK hL hR hF hset hch hL2 hfk hcc hfl
              go_wp2
              go_roundw
              case rel => exact ⟨j + 1, c + 1, fr.set k true, by omega, by go_num, by go_num, hfl2, hc4, hL3, hR3, hF3⟩
              case measure => simp [RowKit.intOf]; omega
            | true =>
              have hC := Lib.hid ((hL.out.give hM.out (Apt.zero _ _ _) hki).mono (R' := fun e w' => e = .returned (.int .i64 1) ∧ P2 w1 w' gl g gt 80 x V [0] 0 i (frT fr) 0 0 (fun _ => false) (fun k => k = q ∨ k = gf) ∧ KeepX (fun k => k = q ∨ k = gf) wr w') (by
                rintro e w' (⟨a, _⟩ | ⟨_, b, c, d⟩)
                · unfold frT at a; rw [hfk] at a; cases a
                · exact ⟨b, c, d⟩))
              go_wp2_with (with_reducible refine stop_load 29 ?_)
              refine Stop.mk (wpList_load_cells rfl rfl rfl (load_pool hR.out) ?_)
              go_wp2_with fail
              refine hC.out.mono ?_
              rintro e w9 ⟨rfl, hL2, hK⟩
              have hR := hK.blk hR.out (.inl rfl)
              have hF := hK.blk hF.out (.inr rfl)
              have hcell := (hF.cell k).trans (bls_at fr k hkl.out)
              rw [hfk] at hcell
              have hfz := hF.frozen k
              have hset := hF.set_ k (.bool true)
              rw [bls_set, set_same hkl.out hfk] at hset
              have hch : Chg (fun j => j = gf) w9 (w9.setCell ⟨gf, k, none⟩ (.bool true)) := (Chg.refl (fun j => j = gf) w9).setCell (p := ⟨gf, k, none⟩) (fun _ => rfl) _
              have hL3 := Lib.hid (hL2.own hch (fun m hm => ⟨.inr hm, by rw [show m = gf from hm]; exact hg1.out⟩) (fun m cs hb hm => by subst hm; cases hF.symm.trans hb) (fun m cs hb hm => by subst hm; cases hF.symm.trans hb))
              have hR3 := Lib.hid (hR.far (p := ⟨gf, k, none⟩) (fun e => (hR.ne_ hF (by decide)) e) (.bool true))
              have hF3 := Lib.hid hset
              clear hC hK hL hR hF hset hch hL2 hfk
              go_wp2
              go_roundw
              case rel => exact ⟨j + 1, c, fr, by omega, by go_num, rfl, hfl, hcc, hL3, hR3, hF3⟩
              case measure => simp [RowKit.intOf]; omega
          · obtain ⟨k, hk⟩ : ∃ k : Nat, Int.tmod v (i : Int) = (k : Int) := ⟨(Int.tmod v (i : Int)).toNat, by omega⟩
            rw [hk] at hneg hq1 hq2
            have hki : k < i := by omega
            have hkl : Hid (k < fr.length) := Lib.hid (by rw [hfl.out]; exact hki)
            have hwf : IntKind.i64.wrap (n1 + (k : Int)) = n1 + (k : Int) := by rw [IntKind.wrap_i64]; omega
            have hwc : IntKind.i64.wrap ((c : Int) + 1) = (c : Int) + 1 := by rw [IntKind.wrap_i64]; omega
            clear hq1 hq2 v1 v2
            cases hfk : fr.getD k false with
            | false =>
              have hC := Lib.hid ((hL.out.give hM.out (Apt.zero _ _ _) hki).mono (R' := fun e w' => e = .returned (.int .i64 0) ∧ P2 w1 w' gl g gt 80 x V [0] 0 i (frT (fr.set k true)) 0 0 (fun _ => false) (fun k => k = q ∨ k = gf) ∧ KeepX (fun k => k = q ∨ k = gf) wr w') (by
                rintro e w' (⟨_, b, c, d⟩ | ⟨a, _⟩)
                · exact ⟨b, c.congr fun j _ => frT_set hkl.out hfk j, d⟩
                · unfold frT at a; rw [hfk] at a; cases a))
              go_wp2_with (with_reducible refine stop_load 29 ?_)
              refine Stop.mk (wpList_load_cells rfl rfl rfl (load_pool hR.out) ?_)
              go_wp2_with fail
              refine hC.out.mono ?_
              rintro e w9 ⟨rfl, hL2, hK⟩
              have hR := hK.blk hR.out (.inl rfl)
              have hF := hK.blk hF.out (.inr rfl)
              have hcell := (hF.cell k).trans (bls_at fr k hkl.out)
              rw [hfk] at hcell
              have hfz := hF.frozen k
              have hset := hF.set_ k (.bool true)
              rw [bls_set] at hset
              have hch : Chg (fun j => j = gf) w9 (w9.setCell ⟨gf, k, none⟩ (.bool true)) := (Chg.refl (fun j => j = gf) w9).setCell (p := ⟨gf, k, none⟩) (fun _ => rfl) _
              have hL3 := Lib.hid (hL2.own hch (fun m hm => ⟨.inr hm, by rw [show m = gf from hm]; exact hg1.out⟩) (fun m cs hb hm => by subst hm; cases hF.symm.trans hb) (fun m cs hb hm => by subst hm; cases hF.symm.trans hb))
              have hR3 := Lib.hid (hR.far (p := ⟨gf, k, none⟩) (fun e => (hR.ne_ hF (by decide)) e) (.bool true))
              have hF3 := Lib.hid hset
              have hc4 : Hid (c + 1 ≤ (fr.set k true).count true) := Lib.hid (by rw [count_new hkl.out hfk]; exact Nat.succ_le_succ hcc.out)
              have hfl2 : Hid ((fr.set k true).length = i) := Lib.hid (by rw [List.length_set]; exact hfl.out)
              clear hC hK hL hR hF hset hch hL2 hfk hcc hfl
              go_wp2
              go_roundw
              case rel => exact ⟨j + 1, c + 1, fr.set k true, by omega, by go_num, by go_num, hfl2, hc4, hL3, hR3, hF3⟩
              case measure => simp [RowKit.intOf]; omega
            | true =>
              have hC := Lib.hid ((hL.out.give hM.out (Apt.zero _ _ _) hki).mono (R' := fun e w' => e = .returned (.int .i64 1) ∧ P2 w1 w' gl g gt 80 x V [0] 0 i (frT fr) 0 0 (fun _ => false) (fun k => k = q ∨ k = gf) ∧ KeepX (fun k => k = q ∨ k = gf) wr w') (by
                rintro e w' (⟨a, _⟩ | ⟨_, b, c, d⟩)
                · unfold frT at a; rw [hfk] at a; cases a
                · exact ⟨b, c, d⟩))
              go_wp2_with (with_reducible refine stop_load 29 ?_)
              refine Stop.mk (wpList_load_cells rfl rfl rfl (load_pool hR.out) ?_)
              go_wp2_with fail
              refine hC.out.mono ?_
              rintro e w9 ⟨rfl, hL2, hK⟩
              have hR := hK.blk hR.out (.inl rfl)
              have hF := hK.blk hF.out (.inr rfl)
              have hcell := (hF.cell k).trans (bls_at fr k hkl.out)
              rw [hfk] at hcell
              have hfz := hF.frozen k
              have hset := hF.set_ k (.bool true)
              rw [bls_set, set_same hkl.out hfk] at hset
              have hch : Chg (fun j => j = gf) w9 (w9.setCell ⟨gf, k, none⟩ (.bool true)) := (Chg.refl (fun j => j = gf) w9).setCell (p := ⟨gf, k, none⟩) (fun _ => rfl) _
              have hL3 := Lib.hid (hL2.own hch (fun m hm => ⟨.inr hm, by rw [show m = gf from hm]; exact hg1.out⟩) (fun m cs hb hm => by subst hm; cases hF.symm.trans hb) (fun m cs hb hm => by subst hm; cases hF.symm.trans hb))
              have hR3 := Lib.hid (hR.far (p := ⟨gf, k, none⟩) (fun e => (hR.ne_ hF (by decide)) e) (.bool true))
              have hF3 := Lib.hid hset
              clear hC hK hL hR hF hset hch hL2 hfk
              go_wp2
              go_roundw
              case rel => exact ⟨j + 1, c, fr, by omega, by go_num, rfl, hfl, hcc, hL3, hR3, hF3⟩
              case measure => simp [RowKit.intOf]; omega
        · obtain rfl : L = j := by omega
          have hjL' : ¬ (L : Int) < (L : Int) := by omega
          have hL := Lib.hid (hL.out.congr (S := fjT fr 0) fun k _ => by unfold fjT; simp)
          clear hjL
          go_wp2
          go_loopw [20] (fun iv wr => ∃ k : Nat, k ≤ i ∧ iv = .int .i64 (k : Int) ∧ Hid (P2 w1 wr gl g gt 80 x V [0] 0 i (fjT fr k) 0 0 (fun _ => false) (fun k => k = q ∨ k = gf)) ∧ Hid (Blk wr q 29 #[.int .i64 0, .int .i64 n1, .int .i64 (i : Int)]) ∧ Hid (Blk wr gf 4 (bls fr))) (fun iv _ => i - (RowKit.intOf iv).toNat)
          case atStart => exact ⟨0, Nat.zero_le _, rfl, hL, hR, hF⟩
          case round =>
            clear hL hR hF
            obtain ⟨k, hk, rfl, hL, hR, hF⟩ := hrel
            by_cases hki : k < i
            · have hki' : (k : Int) < (i : Int) := by omega
              have hcell := (hF.out.cell k).trans (bls_at fr k (by rw [hfl.out]; exact hki))
              cases hfk : fr.getD k false with
              | false =>
                rw [hfk] at hcell
                have hL2 := Lib.hid (hL.out.congr (S := fjT fr (k + 1)) fun j _ => fjT_skip hfk j)
                clear hL hfk
                go_wp2
                go_roundw
                case rel => exact ⟨k + 1, by omega, by go_num, hL2, hR, hF⟩
                case measure => simp [RowKit.intOf]; omega
              | true =>
                rw [hfk] at hcell
                have hwr : IntKind.i64.wrap (n1 + (k : Int)) = n1 + (k : Int) := by rw [IntKind.wrap_i64]; omega
                have hC := Lib.hid ((hL.out.take hM.out (Apt.zero _ _ _)).mono (R' := fun e w' => e = .returned (.tuple #[.int .i64 (n1 + (k : Int)), .int .i64 0]) ∧ P2 w1 w' gl g gt 80 x V [0] 0 i (fjT fr (k + 1)) 0 0 (fun _ => false) (fun k => k = q ∨ k = gf) ∧ KeepX (fun k => k = q ∨ k = gf) wr w') (by
                  rintro e w' (⟨a, _⟩ | ⟨k2, a, b, c, d⟩)
                  · rw [fjT_least hki hfk] at a; cases a
                  · rw [fjT_least hki hfk] at a
                    obtain rfl : k = k2 := Option.some.inj a
                    exact ⟨b, c.congr fun j _ => fjT_flip hfk j, d⟩))
                clear hfk
                go_wp2_with (with_reducible refine stop_load 29 ?_)
                refine Stop.mk (wpList_load_cells rfl rfl rfl (load_pool hR.out) ?_)
                go_wp2_with fail
                refine hC.out.mono ?_
                rintro e w9 ⟨rfl, hL2, hK⟩
                have hR := Lib.hid (hK.blk hR.out (.inl rfl))
                have hF := Lib.hid (hK.blk hF.out (.inr rfl))
                have hL2 := Lib.hid hL2
                clear hC hK hL hcell
                go_wp2
                go_roundw
                case rel => exact ⟨k + 1, by omega, by go_num, hL2, hR, hF⟩
                case measure => simp [RowKit.intOf]; omega
            · obtain rfl : i = k := by omega
              have hki' : ¬ (i : Int) < (i : Int) := by omega
              have hFr := hL.out.free hM.out
              rw [fjT_cnt, show (i : Int) - (i : Int) = 0 by omega] at hFr
              have hFr := Lib.hid hFr
              have hci : (c : Int) ≤ (i : Int) := by
                have h1 := hcc.out
                have h2 := List.count_le_length (a := true) (l := fr)
                have h3 := hfl.out
                omega
              go_wp2_with (with_reducible refine stop_load 29 ?_)
              refine Stop.mk (wpList_load_cells rfl rfl rfl (load_pool hR.out) ?_)
              go_wp2_with fail
              refine hFr.out.mono ?_
              rintro e w9 ⟨rfl, hb⟩
              have hbf := Lib.hid (hB1h.out.trans ((hL.out.bel.trans (hb.mono hL.out.bel.size)).mono hB1h.out.size))
              clear hFr hb hL hR
              go_wp2
              go_ret
              exact ⟨rfl, hbf.out⟩
end Go.Proofs.Ytefbmbfhhhjgkaa
