/- AllocApart, walked; numbers that are not of the pool. Printed by genaz.py. -/
import Derived.Test.YtefbmbfhhhjgkaaAl
namespace Go.Proofs.Ytefbmbfhhhjgkaa
open Go.RowKit
section
variable {W0 w w' : World} {gl g gt N : Nat} {x : Lk} {V : Nat → List UInt8} {bl : List Nat} {m n m' n' : Nat} {T T' : Nat → Bool} {X : Nat → Prop} {f : Int}
theorem LT.blocks {t : Tk} (h : LT W0 w gl g gt N x V t X) (hN : 65 < N ∧ N ≤ 16000) : Calls Try.prog 68 #[.pointer (some ⟨gt, 0, none⟩)] w (Ans w (.int .i64 ((N - 65 : Nat) : Int))) := by
  obtain ⟨S, F, ST, FT, q1, q2, _⟩ := h.ex
  exact TBlocks_calls w q1 q2 (by rw [h.la.vw.dl]; omega) (by omega)
theorem P2.at_out (h : P2 W0 w gl g gt N x V bl m n T m' n' T' X) (hM : MapIn N m n f bl) {nn : Int} (hnn : I64 nn) (ho : nn < f ∨ (n : Int) ≤ nn - f) (W : World) (hW : Below w.heap.size w W) :
    Calls Try.prog 39 #[.agg #[.int .i64 (m : Int), .int .i64 f, .int .i64 (n : Int)], .pointer (some ⟨gt, 0, none⟩), .int .i64 nn] W (AtBad W) := by
  obtain ⟨t, h1, _⟩ := (h.below hW).ex
  obtain ⟨hr, _⟩ := hM.hp.right (by have := hM.hN; omega)
  obtain ⟨⟨f1, f2⟩, ⟨n1, n2⟩, m1⟩ := hM.hp
  have hN := hM.hN
  have hm : I64 (m : Int) := ⟨by omega, by omega⟩
  have hf : I64 f := ⟨by omega, by omega⟩
  have hn : I64 (n : Int) := ⟨by omega, by omega⟩
  have hblk : ∀ W', Below W.heap.size W W' → Calls Try.prog 68 #[.pointer (some ⟨gt, 0, none⟩)] W' (Ans W' (.int .i64 ((N - 65 : Nat) : Int))) := fun W' hb => (h1.below hb).blocks hN
  by_cases hlow : nn < f
  · exact at_low W hm hf hn hnn (by omega) hblk hr hlow
  · exact at_high W hm hf hn hnn (by omega) hblk hr hlow f1 (by omega)
theorem P2.give_out (h : P2 W0 w gl g gt N x V bl m n T m' n' T' X) (hM : MapIn N m n f bl) {nn : Int} (hnn : I64 nn) (ho : nn < f ∨ (n : Int) ≤ nn - f) :
    Calls Try.prog 11 #[.agg #[.int .i64 (m : Int), .int .i64 f, .int .i64 (n : Int)], .pointer (some ⟨gt, 0, none⟩), .int .i64 nn] w fun e w' => e = .returned (.int .i64 1) ∧ Below w.heap.size w w' :=
  give_bad w fun W hW => h.at_out hM hnn ho W hW
theorem P2.has_out (h : P2 W0 w gl g gt N x V bl m n T m' n' T' X) (hM : MapIn N m n f bl) {nn : Int} (hnn : I64 nn) (ho : nn < f ∨ (n : Int) ≤ nn - f) :
    Calls Try.prog 18 #[.agg #[.int .i64 (m : Int), .int .i64 f, .int .i64 (n : Int)], .pointer (some ⟨gt, 0, none⟩), .int .i64 nn] w fun e w' => e = .returned (.tuple #[.bool false, .int .i64 1]) ∧ Below w.heap.size w w' :=
  has_bad w fun W hW => h.at_out hM hnn ho W hW
end
theorem Rd.boolAtK {w : World} {A : Option Addr} {n c : Nat} {us : List Bool} (h : Rd w (.slice A n c) (us.map Value.bool)) {k : Nat} (hk : k < us.length) : ∃ ad, A = some ad ∧ w.cell? (ad.add k) = some (.bool us[k]) := by
  obtain ⟨ad, c', e, hc⟩ := h.cell (j := k) (by simpa using hk)
  injection e with e1 _ _
  exact ⟨ad, e1, by rw [hc]; simp⟩
set_option maxRecDepth 100000 in
set_option maxHeartbeats 16000000 in
theorem AllocApart_calls (w : World) {n0 n1 : Int} {x2 : Value} {ys : List Bool} (ww0 : (Lit.int .i64 n0).wf = true) (ww1 : (Lit.int .i64 n1).wf = true) (xx2 : Rd w x2 (ys.map Value.bool)) (ll2 : ys.length ≤ 9223372036854775807) :
    Calls Try.prog 4 #[.int .i64 n0, .int .i64 n1, x2] w fun e w' => e = .returned (.bool true) ∧ Below w.heap.size w w' := by
  obtain ⟨k0, l0⟩ := wf64K ww0
  obtain ⟨k1, l1⟩ := wf64K ww1
  obtain ⟨xA, xc, rfl⟩ : ∃ A c, x2 = .slice A ys.length c := by
    obtain ⟨A, c, rfl, _⟩ := xx2
    exact ⟨A, c, by simp⟩
  have hx2 := Lib.hid xx2
  obtain ⟨L, hLn⟩ : ∃ L, Hid (ys.length = L) := ⟨_, Lib.hid rfl⟩
  rw [hLn.out] at hx2 ll2 ⊢
  clear ww0 ww1 xx2
  go_enter Try.func4, Try.ntmps4
  go_wp2_with fail
  refine (known_calls w).mono ?_
  rintro e w1 ⟨rfl, hB1⟩
  have hB1h := Lib.hid hB1
  clear hB1
  by_cases b1 : n0 < 1
  · go_wp2
    go_ret
    exact ⟨rfl, hB1h.out⟩
  by_cases b2 : 60 < n0
  · go_wp2
    go_ret
    exact ⟨rfl, hB1h.out⟩
  by_cases b3 : n1 < 1
  · go_wp2
    go_ret
    exact ⟨rfl, hB1h.out⟩
  by_cases b4 : 60 < n1
  · go_wp2
    go_ret
    exact ⟨rfl, hB1h.out⟩
  by_cases b5 : (100 : Int) < (L : Int)
  · go_wp2
    go_ret
    exact ⟨rfl, hB1h.out⟩
  obtain ⟨n, rfl⟩ : ∃ n : Nat, (n : Int) = n0 := ⟨n0.toNat, by omega⟩
  obtain ⟨m, rfl⟩ : ∃ n : Nat, (n : Int) = n1 := ⟨n1.toNat, by omega⟩
  have hM : Hid (MapIn 100 0 n 10 [0, 1]) := Lib.hid ⟨by omega, ⟨by omega, by omega, by omega⟩, by decide, fun k hk => by
    have : k = 0 := by omega
    subst this
    simp⟩
  have hM2 : Hid (MapIn 100 1 m (10 + (n : Int)) [0, 1]) := Lib.hid ⟨by omega, ⟨by omega, by omega, by omega⟩, by decide, fun k hk => by
    have : k = 0 := by omega
    subst this
    simp⟩
  have hA1 : Hid (Apt 0 n 1 m) := Lib.hid fun k hk j hj => by omega
  have hA2 : Hid (Apt 1 m 0 n) := Lib.hid fun k hk j hj => by omega
  have hMk := Lib.hid (made_calls w1 100 (by omega))
  go_wp2_with fail
  refine hMk.out.mono ?_
  rintro e w2 ⟨gl, g, gt, d, rfl, hL0⟩
  have hL := Lib.hid (hL0.fresh2 [0, 1] 0 n 1 m)
  obtain ⟨x, hx⟩ : ∃ x : Lk, Hid (x = begK d) := ⟨_, Lib.hid rfl⟩
  obtain ⟨V, hV⟩ : ∃ V, Hid (V = fmtV) := ⟨_, Lib.hid rfl⟩
  rw [← hx.out, ← hV.out] at hL
  obtain ⟨T0, hT0⟩ : ∃ T0 : Nat → Bool, (fun i => bitAt (datP x V (0 + i / 4096)) (i % 4096)) = T0 := ⟨_, rfl⟩
  rw [hT0] at hL
  obtain ⟨T1, hT1⟩ : ∃ T1 : Nat → Bool, (fun i => bitAt (datP x V (1 + i / 4096)) (i % 4096)) = T1 := ⟨_, rfl⟩
  rw [hT1] at hL
  have hwn : IntKind.i64.wrap (10 + (n : Int)) = 10 + (n : Int) := by rw [IntKind.wrap_i64]; omega
  clear hMk hT0 hT1 hL0
  go_wp2_with (with_reducible refine stop_store 29 ?_)
  obtain ⟨hz, hR, hB⟩ := pool_row w2 (0) (10) ((n : Int))
  refine Stop.mk (wpList_store_row rfl 29 _ _ rfl w2.heap.size #[.int .i64 (0), .int .i64 (10), .int .i64 ((n : Int))] rfl rfl 29 #[.int .i64 0, .int .i64 0, .int .i64 0] hz (by kernel_rfl) rfl (by simp [Value.oneCell']) ?_)
  clear hz
  have hsz : w2.heap.size < (World.setRow (w2.alloc (.cells #[.int .i64 0, .int .i64 0, .int .i64 0] 29)) w2.heap.size #[.int .i64 (0), .int .i64 (10), .int .i64 ((n : Int))]).heap.size := hR.lt
  generalize (World.setRow (w2.alloc (.cells #[.int .i64 0, .int .i64 0, .int .i64 0] 29)) w2.heap.size #[.int .i64 (0), .int .i64 (10), .int .i64 ((n : Int))]) = w3 at *
  obtain ⟨q1, hq⟩ : ∃ q, w2.heap.size = q := ⟨_, rfl⟩
  have hL := Lib.hid (hL.out.more hB (Y := fun k => k = q1) fun k hk => .inr ⟨by rw [hk, hq]; exact Nat.le_refl _, by rw [hk, ← hq]; exact hsz⟩)
  rw [hq] at hR ⊢
  have hR1 := Lib.hid hR
  clear hB hsz hq hR
  go_wp2_with (with_reducible refine stop_store 29 ?_)
  obtain ⟨hz, hR, hB⟩ := pool_row w3 (1) (10 + (n : Int)) ((m : Int))
  refine Stop.mk (wpList_store_row rfl 29 _ _ rfl w3.heap.size #[.int .i64 (1), .int .i64 (10 + (n : Int)), .int .i64 ((m : Int))] rfl rfl 29 #[.int .i64 0, .int .i64 0, .int .i64 0] hz (by kernel_rfl) rfl (by simp [Value.oneCell']) ?_)
  clear hz
  have hsz : w3.heap.size < (World.setRow (w3.alloc (.cells #[.int .i64 0, .int .i64 0, .int .i64 0] 29)) w3.heap.size #[.int .i64 (1), .int .i64 (10 + (n : Int)), .int .i64 ((m : Int))]).heap.size := hR.lt
  generalize (World.setRow (w3.alloc (.cells #[.int .i64 0, .int .i64 0, .int .i64 0] 29)) w3.heap.size #[.int .i64 (1), .int .i64 (10 + (n : Int)), .int .i64 ((m : Int))]) = w4 at *
  obtain ⟨q2, hq⟩ : ∃ q, w3.heap.size = q := ⟨_, rfl⟩
  have hL := Lib.hid (hL.out.more hB (Y := fun k => k = q1 ∨ k = q2) fun k hk => hk.imp id fun hk => ⟨by rw [hk, hq]; exact Nat.le_refl _, by rw [hk, ← hq]; exact hsz⟩)
  rw [hq] at hR ⊢
  have hR1 := Lib.hid (blk_below hR1.out hB)
  have hR2 := Lib.hid hR
  clear hB hsz hq hR
  go_wp2_with (with_reducible refine stop_load 29 ?_)
  refine Stop.mk (wpList_load_cells rfl rfl rfl (load_pool hR1.out) ?_)
  have hC := Lib.hid (hL.out.clear hM.out hA1.out)
  clear hL
  go_wp2_with fail
  refine hC.out.mono ?_
  rintro e w5 ⟨rfl, hL, hK⟩
  have hR1 := Lib.hid (hK.blk hR1.out (.inl rfl))
  have hR2 := Lib.hid (hK.blk hR2.out (.inr rfl))
  have hL := Lib.hid (hL.congr (S := ltT 0) fun i _ => (decide_eq_false (Nat.not_lt_zero i)).symm)
  clear hC hK
  go_wp2_with (with_reducible refine stop_load 29 ?_)
  refine Stop.mk (wpList_load_cells_g rfl rfl rfl (load_pool hR2.out) ?_)
  have hC := Lib.hid (hL.out.swap.clear hM2.out hA2.out)
  clear hL
  go_wp2_with fail
  refine hC.out.mono ?_
  rintro e w6 ⟨rfl, hL, hK⟩
  have hR1 := Lib.hid (hK.blk hR1.out (.inl rfl))
  have hR2 := Lib.hid (hK.blk hR2.out (.inr rfl))
  have hL := Lib.hid (hL.congr (S := ltT 0) fun i _ => (decide_eq_false (Nat.not_lt_zero i)).symm).swap
  clear hC hK
  go_wp2
  go_loopw [13, 11, 12] (fun iv av bv wr => ∃ (j a b : Nat), j ≤ L ∧ a ≤ n ∧ b ≤ m ∧ iv = .int .i64 (j : Int) ∧ av = .int .i64 (a : Int) ∧ bv = .int .i64 (b : Int) ∧ Hid (P2 w1 wr gl g gt 100 x V [0, 1] 0 n (ltT a) 1 m (ltT b) (fun k => k = q1 ∨ k = q2)) ∧ Hid (Blk wr q1 29 #[.int .i64 0, .int .i64 10, .int .i64 (n : Int)]) ∧ Hid (Blk wr q2 29 #[.int .i64 1, .int .i64 (10 + (n : Int)), .int .i64 (m : Int)])) (fun iv _ _ _ => L - (RowKit.intOf iv).toNat)
  case atStart => exact ⟨0, 0, 0, Nat.zero_le _, Nat.zero_le _, Nat.zero_le _, rfl, rfl, rfl, hL, hR1, hR2⟩
  case round =>
    clear hL hR1 hR2
    obtain ⟨j, a, b, hj, ha, hb, rfl, rfl, rfl, hL, hR1, hR2⟩ := hrel
    by_cases hjL : j < L
    · have hjL' : (j : Int) < (L : Int) := by omega
      have hjl : j < ys.length := by rw [hLn.out]; exact hjL
      obtain ⟨ad, rfl, hcv⟩ := (hx2.out.below (hB1h.out.trans (hL.out.bel.mono hB1h.out.size))).boolAtK hjl
      cases hv : ys[j]'hjl with
      | true =>
        rw [hv] at hcv
        by_cases hab : a < n
        · have hab' : (a : Int) < (n : Int) := by omega
          have hwx : IntKind.i64.wrap (10 + (a : Int)) = 10 + (a : Int) := by rw [IntKind.wrap_i64]; omega
          have hC := Lib.hid (hL.out.take_lt hM.out hA1.out hab)
          go_wp2_with (with_reducible refine stop_load 29 ?_)
          refine Stop.mk (wpList_load_cells rfl rfl rfl (load_pool hR1.out) ?_)
          go_wp2_with fail
          refine hC.out.mono ?_
          rintro e w9 ⟨rfl, hL2, hK⟩
          have hR1 := Lib.hid (hK.blk hR1.out (.inl rfl))
          have hR2 := Lib.hid (hK.blk hR2.out (.inr rfl))
          have hL2 := Lib.hid hL2
          clear hC hK hL hcv
          go_wp2
          go_roundw
          case rel => exact ⟨j + 1, a + 1, b, by omega, by omega, by omega, by go_num, by go_num, rfl, hL2, hR1, hR2⟩
          case measure => simp [RowKit.intOf]; omega
        · obtain rfl : a = n := by omega
          have hab' : ¬ (a : Int) < (a : Int) := by omega
          have hC := Lib.hid (hL.out.take_no hM.out hA1.out)
          go_wp2_with (with_reducible refine stop_load 29 ?_)
          refine Stop.mk (wpList_load_cells rfl rfl rfl (load_pool hR1.out) ?_)
          go_wp2_with fail
          refine hC.out.mono ?_
          rintro e w9 ⟨rfl, hL2, hK⟩
          have hR1 := Lib.hid (hK.blk hR1.out (.inl rfl))
          have hR2 := Lib.hid (hK.blk hR2.out (.inr rfl))
          have hL2 := Lib.hid hL2
          clear hC hK hL hcv
          go_wp2
          go_roundw
          case rel => exact ⟨j + 1, a, b, by omega, by omega, by omega, by go_num, rfl, rfl, hL2, hR1, hR2⟩
          case measure => simp [RowKit.intOf]; omega
      | false =>
        rw [hv] at hcv
        by_cases hab : b < m
        · have hab' : (b : Int) < (m : Int) := by omega
          have hwx : IntKind.i64.wrap (10 + (n : Int) + (b : Int)) = 10 + (n : Int) + (b : Int) := by rw [IntKind.wrap_i64]; omega
          have hC := Lib.hid (hL.out.swap.take_lt hM2.out hA2.out hab)
          go_wp2_with (with_reducible refine stop_load 29 ?_)
          refine Stop.mk (wpList_load_cells rfl rfl rfl (load_pool hR2.out) ?_)
          go_wp2_with fail
          refine hC.out.mono ?_
          rintro e w9 ⟨rfl, hL2, hK⟩
          have hR1 := Lib.hid (hK.blk hR1.out (.inl rfl))
          have hR2 := Lib.hid (hK.blk hR2.out (.inr rfl))
          have hL2 := Lib.hid hL2.swap
          clear hC hK hL hcv
          go_wp2
          go_roundw
          case rel => exact ⟨j + 1, a, b + 1, by omega, by omega, by omega, by go_num, rfl, by go_num, hL2, hR1, hR2⟩
          case measure => simp [RowKit.intOf]; omega
        · obtain rfl : b = m := by omega
          have hab' : ¬ (b : Int) < (b : Int) := by omega
          have hC := Lib.hid (hL.out.swap.take_no hM2.out hA2.out)
          go_wp2_with (with_reducible refine stop_load 29 ?_)
          refine Stop.mk (wpList_load_cells rfl rfl rfl (load_pool hR2.out) ?_)
          go_wp2_with fail
          refine hC.out.mono ?_
          rintro e w9 ⟨rfl, hL2, hK⟩
          have hR1 := Lib.hid (hK.blk hR1.out (.inl rfl))
          have hR2 := Lib.hid (hK.blk hR2.out (.inr rfl))
          have hL2 := Lib.hid hL2.swap
          clear hC hK hL hcv
          go_wp2
          go_roundw
          case rel => exact ⟨j + 1, a, b, by omega, by omega, by omega, by go_num, rfl, rfl, hL2, hR1, hR2⟩
          case measure => simp [RowKit.intOf]; omega
    · obtain rfl : L = j := by omega
      have hjL' : ¬ (L : Int) < (L : Int) := by omega
      have hwa : IntKind.i64.wrap ((n : Int) - (a : Int)) = (n : Int) - (a : Int) := by rw [IntKind.wrap_i64]; omega
      have hwb : IntKind.i64.wrap ((m : Int) - (b : Int)) = (m : Int) - (b : Int) := by rw [IntKind.wrap_i64]; omega
      have hw9 : IntKind.i64.wrap (9 + (n : Int)) = 9 + (n : Int) := by rw [IntKind.wrap_i64]; omega
      have hFr := hL.out.free hM.out
      rw [cnt_lt a n ha] at hFr
      have hFr := Lib.hid hFr
      go_wp2_with (with_reducible refine stop_load 29 ?_)
      refine Stop.mk (wpList_load_cells rfl rfl rfl (load_pool hR1.out) ?_)
      go_wp2_with fail
      refine hFr.out.mono ?_
      rintro e w9 ⟨rfl, hb9⟩
      have hL := Lib.hid (hL.out.below hb9)
      have hR1 := Lib.hid (blk_below hR1.out hb9)
      have hR2 := Lib.hid (blk_below hR2.out hb9)
      have hFr2 := hL.out.swap.free hM2.out
      rw [cnt_lt b m hb] at hFr2
      have hFr2 := Lib.hid hFr2
      clear hFr hb9
      go_wp2_with (with_reducible refine stop_load 29 ?_)
      refine Stop.mk (wpList_load_cells rfl rfl rfl (load_pool hR2.out) ?_)
      go_wp2_with fail
      refine hFr2.out.mono ?_
      rintro e w10 ⟨rfl, hb9⟩
      have hL := Lib.hid (hL.out.below hb9)
      have hR1 := Lib.hid (blk_below hR1.out hb9)
      have hR2 := Lib.hid (blk_below hR2.out hb9)
      have hG := Lib.hid (hL.out.give_out hM.out (nn := 10 + (n : Int)) ⟨by omega, by omega⟩ (.inr (by omega)))
      clear hFr2 hb9
      go_wp2_with (with_reducible refine stop_load 29 ?_)
      refine Stop.mk (wpList_load_cells_g rfl rfl rfl (load_pool hR1.out) ?_)
      go_wp2_with fail
      refine hG.out.mono ?_
      rintro e w11 ⟨rfl, hb9⟩
      have hL := Lib.hid (hL.out.below hb9)
      have hR2 := Lib.hid (blk_below hR2.out hb9)
      have hG2 := Lib.hid (hL.out.swap.give_out hM2.out (nn := 9 + (n : Int)) ⟨by omega, by omega⟩ (.inl (by omega)))
      clear hG hb9
      go_wp2_with (with_reducible refine stop_load 29 ?_)
      refine Stop.mk (wpList_load_cells_g rfl rfl rfl (load_pool hR2.out) ?_)
      go_wp2_with fail
      refine hG2.out.mono ?_
      rintro e w12 ⟨rfl, hb9⟩
      have hbf := Lib.hid (hB1h.out.trans ((hL.out.bel.trans (hb9.mono hL.out.bel.size)).mono hB1h.out.size))
      clear hG2 hb9 hL hR1 hR2
      go_wp2
      go_ret
      exact ⟨rfl, hbf.out⟩
end Go.Proofs.Ytefbmbfhhhjgkaa
