/- AllocAll, walked. Printed by genaa.py. -/
import Derived.Test.YtefbmbfhhhjgkaaAl
namespace Go.Proofs.Ytefbmbfhhhjgkaa
open Go.RowKit
theorem Try.info_bool : (Try.prog.info? 4).map (fun i => (i.zero, i.size, i.bytes)) = some (some (.bool false), 1, 1) := by kernel_rfl
def bls (l : List Bool) : Array Value := (l.map Value.bool).toArray
theorem bls_set (l : List Bool) (k : Nat) (b : Bool) : (bls l).setIfInBounds k (.bool b) = bls (l.set k b) := by
  unfold bls
  simp [List.map_set]
theorem bls_at (l : List Bool) (k : Nat) (h : k < l.length) : (bls l)[k]? = some (.bool (l.getD k false)) := by
  unfold bls
  simp [h]
theorem Rd.intAtK {w : World} {A : Option Addr} {n c : Nat} {us : List Int} (h : Rd w (.slice A n c) (us.map (Value.int .i64))) {k : Nat} (hk : k < us.length) : ∃ ad, A = some ad ∧ w.cell? (ad.add k) = some (.int .i64 us[k]) := by
  obtain ⟨ad, c', e, hc⟩ := h.cell (j := k) (by simpa using hk)
  injection e with e1 _ _
  exact ⟨ad, e1, by rw [hc]; simp⟩
/-- All are taken but those that were given back. -/
def frT (fr : List Bool) : Nat → Bool := fun j => !(fr.getD j false)
theorem frT_set {fr : List Bool} {k : Nat} (hk : k < fr.length) (h : fr.getD k false = false) (j : Nat) : flipT (frT fr) k j = frT (fr.set k true) j := by
  unfold flipT frT
  by_cases e : j = k
  · subst e
    rw [if_pos rfl, h]
    simp [List.getD_eq_getElem?_getD, hk]
  · rw [if_neg e]
    simp [List.getD_eq_getElem?_getD, List.getElem?_set, Ne.symm e]
theorem set_same {fr : List Bool} {k : Nat} (hk : k < fr.length) (h : fr.getD k false = true) : fr.set k true = fr := by
  have : fr[k] = true := by simpa [List.getD_eq_getElem?_getD, hk] using h
  rw [← this, List.set_getElem_self]
theorem count_new {fr : List Bool} {k : Nat} (hk : k < fr.length) (h : fr.getD k false = false) : (fr.set k true).count true = fr.count true + 1 := by
  have : fr[k] = false := by simpa [List.getD_eq_getElem?_getD, hk] using h
  rw [List.count_set hk, this]
  simp
/-- .. and the first of those are taken again. -/
def fjT (fr : List Bool) (i : Nat) : Nat → Bool := fun j => decide (j < i) || frT fr j
theorem fjT_least {fr : List Bool} {i n : Nat} (hi : i < n) (h : fr.getD i false = true) : leastG (fjT fr i) n 0 = some i :=
  leastG_of (Nat.zero_le _) (by omega) (by unfold fjT frT; rw [h]; simp) fun k _ hk => by unfold fjT; rw [decide_eq_true hk]; rfl
theorem fjT_flip {fr : List Bool} {i : Nat} (h : fr.getD i false = true) (j : Nat) : flipT (fjT fr i) i j = fjT fr (i + 1) j := by
  unfold flipT fjT frT
  by_cases e : j = i
  · subst e
    rw [if_pos rfl, h]
    simp
  · rw [if_neg e, decide_eq_decide.2 (show j < i ↔ j < i + 1 by omega)]
theorem fjT_skip {fr : List Bool} {i : Nat} (h : fr.getD i false = false) (j : Nat) : fjT fr i j = fjT fr (i + 1) j := by
  unfold fjT frT
  by_cases e : j = i
  · subst e
    rw [h]
    simp
  · rw [decide_eq_decide.2 (show j < i ↔ j < i + 1 by omega)]
theorem fjT_cnt (fr : List Bool) (n : Nat) : cntT (fjT fr n) n = n := by
  rw [cntT_congr (T' := ltT n) (fun i hi => by unfold fjT ltT; rw [decide_eq_true hi]; rfl), cnt_lt n n (Nat.le_refl _)]
set_option maxRecDepth 100000 in
set_option maxHeartbeats 16000000 in
theorem AllocAll_calls (w : World) {n0 n1 : Int} {x2 : Value} {ys : List Int} (ww0 : (Lit.int .i64 n0).wf = true) (ww1 : (Lit.int .i64 n1).wf = true) (xx2 : Rd w x2 (ys.map (Value.int .i64))) (ll2 : ys.length ≤ 9223372036854775807) (ww2 : ∀ n ∈ ys, (Lit.int .i64 n).wf = true) :
    Calls Try.prog 3 #[.int .i64 n0, .int .i64 n1, x2] w fun e w' => e = .returned (.bool true) ∧ Below w.heap.size w w' := by
  obtain ⟨k0, l0⟩ := wf64K ww0
  obtain ⟨k1, l1⟩ := wf64K ww1
  obtain ⟨xA, xc, rfl⟩ : ∃ A c, x2 = .slice A ys.length c := by
    obtain ⟨A, c, rfl, _⟩ := xx2
    exact ⟨A, c, by simp⟩
  have hx2 := Lib.hid xx2
  have hww := Lib.hid ww2
  obtain ⟨L, hLn⟩ : ∃ L, Hid (ys.length = L) := ⟨_, Lib.hid rfl⟩
  rw [hLn.out] at hx2 ll2 ⊢
  clear ww0 ww1 xx2 ww2
  go_enter Try.func3, Try.ntmps3
  go_wp2_with fail
  refine (known_calls w).mono ?_
  rintro e w1 ⟨rfl, hB1⟩
  have hB1h := Lib.hid hB1
  clear hB1
  by_cases b1 : n0 < 1
  · go_wp2
    go_ret
    exact ⟨rfl, hB1h.out⟩
  by_cases b2 : 300 < n0
  · go_wp2
    go_ret
    exact ⟨rfl, hB1h.out⟩
  by_cases b3 : n1 < 0
  · go_wp2
    go_ret
    exact ⟨rfl, hB1h.out⟩
  by_cases b4 : 1048576 < n1
  · go_wp2
    go_ret
    exact ⟨rfl, hB1h.out⟩
  by_cases b5 : (60 : Int) < (L : Int)
  · go_wp2
    go_ret
    exact ⟨rfl, hB1h.out⟩
  obtain ⟨n, rfl⟩ : ∃ n : Nat, (n : Int) = n0 := ⟨n0.toNat, by omega⟩
  have hM : Hid (MapIn 80 0 n n1 [0]) := Lib.hid ⟨by omega, ⟨by omega, by omega, by omega⟩, by decide, fun k hk => by
    have : k = 0 := by omega
    subst this
    exact List.mem_cons_self⟩
  have hMk := Lib.hid (made_calls w1 80 (by omega))
  go_wp2_with fail
  refine hMk.out.mono ?_
  rintro e w2 ⟨gl, g, gt, d, rfl, hL⟩
  have hL := Lib.hid (hL.fresh1 [0] 0 n)
  obtain ⟨x, hx⟩ : ∃ x : Lk, Hid (x = begK d) := ⟨_, Lib.hid rfl⟩
  obtain ⟨V, hV⟩ : ∃ V, Hid (V = fmtV) := ⟨_, Lib.hid rfl⟩
  rw [← hx.out, ← hV.out] at hL
  obtain ⟨T0, hT0⟩ : ∃ T0 : Nat → Bool, (fun i => bitAt (datP x V (0 + i / 4096)) (i % 4096)) = T0 := ⟨_, rfl⟩
  rw [hT0] at hL
  clear hMk hT0
  go_wp2_with (with_reducible refine stop_store 29 ?_)
  obtain ⟨hz, hR, hB⟩ := pool_row w2 (0) (n1) ((n : Int))
  refine Stop.mk (wpList_store_row rfl 29 _ _ rfl w2.heap.size #[.int .i64 (0), .int .i64 (n1), .int .i64 ((n : Int))] rfl rfl 29 #[.int .i64 0, .int .i64 0, .int .i64 0] hz (by kernel_rfl) rfl (by simp [Value.oneCell']) ?_)
  clear hz
  have hsz : w2.heap.size < (World.setRow (w2.alloc (.cells #[.int .i64 0, .int .i64 0, .int .i64 0] 29)) w2.heap.size #[.int .i64 (0), .int .i64 (n1), .int .i64 ((n : Int))]).heap.size := hR.lt
  generalize (World.setRow (w2.alloc (.cells #[.int .i64 0, .int .i64 0, .int .i64 0] 29)) w2.heap.size #[.int .i64 (0), .int .i64 (n1), .int .i64 ((n : Int))]) = w3 at *
  obtain ⟨q, hq⟩ : ∃ q, w2.heap.size = q := ⟨_, rfl⟩
  have hL := Lib.hid (hL.out.more hB (Y := fun k => k = q) fun k hk => .inr ⟨by rw [hk, hq]; exact Nat.le_refl _, by rw [hk, ← hq]; exact hsz⟩)
  rw [hq] at hR ⊢
  have hR := Lib.hid hR
  clear hB hsz hq
  go_wp2_with (with_reducible refine stop_load 29 ?_)
  refine Stop.mk (wpList_load_cells_g rfl rfl rfl (load_pool hR.out) ?_)
  have hC := Lib.hid (hL.out.clear hM.out (Apt.zero _ _ _))
  clear hL
  go_wp2_with fail
  refine hC.out.mono ?_
  rintro e w4 ⟨rfl, hL, hK⟩
  have hR := Lib.hid (hK.blk hR.out rfl)
  have hL := Lib.hid (hL.congr (S := ltT 0) fun i _ => (decide_eq_false (Nat.not_lt_zero i)).symm)
  clear hC hK
  go_wp2
  go_loopw [10] (fun iv wr => ∃ i : Nat, i ≤ n ∧ iv = .int .i64 (i : Int) ∧ Hid (P2 w1 wr gl g gt 80 x V [0] 0 n (ltT i) 0 0 (fun _ => false) (fun k => k = q)) ∧ Hid (Blk wr q 29 #[.int .i64 0, .int .i64 n1, .int .i64 (n : Int)])) (fun iv _ => n - (RowKit.intOf iv).toNat)
  case atStart => exact ⟨0, Nat.zero_le _, rfl, hL, hR⟩
  case round =>
    clear hL hR
    obtain ⟨i, hi, rfl, hL, hR⟩ := hrel
    by_cases hia : i < n
    · have hia' : (i : Int) < (n : Int) := by omega
      have hwr : IntKind.i64.wrap (n1 + (i : Int)) = n1 + (i : Int) := by rw [IntKind.wrap_i64]; omega
      have hC := Lib.hid (hL.out.take_lt hM.out (Apt.zero _ _ _) (by omega))
      go_wp2_with (with_reducible refine stop_load 29 ?_)
      refine Stop.mk (wpList_load_cells rfl rfl rfl (load_pool hR.out) ?_)
      go_wp2_with fail
      refine hC.out.mono ?_
      rintro e w7 ⟨rfl, hL2, hK⟩
      have hR := Lib.hid (hK.blk hR.out rfl)
      have hL2 := Lib.hid hL2
      clear hC hK hL
      go_wp2
      go_roundw
      case rel => exact ⟨i + 1, by omega, by go_num, hL2, hR⟩
      case measure => simp [RowKit.intOf]; omega
    · obtain rfl : i = n := by omega
      have hia' : ¬ (i : Int) < (i : Int) := by omega
      have hC := Lib.hid (hL.out.take_no hM.out (Apt.zero _ _ _))
      go_wp2_with (with_reducible refine stop_load 29 ?_)
      refine Stop.mk (wpList_load_cells rfl rfl rfl (load_pool hR.out) ?_)
      go_wp2_with fail
      refine hC.out.mono ?_
      rintro e w7 ⟨rfl, hL2, hK⟩
      have hR := Lib.hid (hK.blk hR.out rfl)
      obtain ⟨ib, hi0, hz0, hz1, hz2⟩ := info_parts Try.info_bool
      have hmk0 := run_mkr (P := Try.prog) 34 4 ib (.bool false) Try.underlying34 hi0 hz0 rfl hz1 i (by rw [hz2]; omega) (by omega) w7
      have hmk : Sem.run Try.prog (Instr.makeSlice 34 (.int .i64 (i : Int)) (.int .i64 (i : Int))) w7 = .ok (.slice (some ⟨w7.heap.size, 0, none⟩) i i) (w7.alloc (.cells (bls (List.replicate i false)) 4)) := by
        have e : (List.replicate i (Value.bool false)).toArray = bls (List.replicate i false) := by
          unfold bls; rw [List.map_replicate]
        rw [← e]
        exact hmk0
      have hF : Blk (w7.alloc (.cells (bls (List.replicate i false)) 4)) w7.heap.size 4 (bls (List.replicate i false)) := Blk.new _ _ _
      have hb8 : Below w7.heap.size w7 (w7.alloc (.cells (bls (List.replicate i false)) 4)) := (Below.refl _ _).alloc (Nat.le_refl _) _
      have hg1 : Hid (w1.heap.size ≤ w7.heap.size) := Lib.hid hL2.bel.size
      obtain ⟨gf, hgf⟩ : ∃ gf, w7.heap.size = gf := ⟨_, rfl⟩
      have hsz8 : gf < (w7.alloc (.cells (bls (List.replicate i false)) 4)).heap.size := by rw [← hgf]; exact hF.lt
      have hR := Lib.hid (blk_below hR.out hb8)
      have hL := Lib.hid ((hL2.more hb8 (Y := fun k => k = q ∨ k = gf) fun k hk => hk.imp id fun e => ⟨by rw [e, hgf]; exact Nat.le_refl _, by rw [e]; exact hsz8⟩).congr (S := frT (List.replicate i false)) fun j hj => by
        unfold ltT frT
        rw [decide_eq_true hj, List.getD_eq_getElem?_getD, List.getElem?_replicate]
        split <;> rfl)
      rw [hgf] at hF hmk hg1
      have hF := Lib.hid hF
      clear hC hK hL2 hb8 hsz8 hmk0 hi0 hz0 hz1 hz2 hgf
      generalize w7.alloc (.cells (bls (List.replicate i false)) 4) = w8 at *
      go_wp2
      clear hmk
      go_loopw [17, 16] (fun iv cv wr => ∃ (j c : Nat) (fr : List Bool), j ≤ L ∧ iv = .int .i64 (j : Int) ∧ cv = .int .i64 (c : Int) ∧ Hid (fr.length = i) ∧ Hid (c ≤ fr.count true) ∧ Hid (P2 w1 wr gl g gt 80 x V [0] 0 i (frT fr) 0 0 (fun _ => false) (fun k => k = q ∨ k = gf)) ∧ Hid (Blk wr q 29 #[.int .i64 0, .int .i64 n1, .int .i64 (i : Int)]) ∧ Hid (Blk wr gf 4 (bls fr))) (fun iv _ _ => L - (RowKit.intOf iv).toNat)
      case atStart => exact ⟨0, 0, _, Nat.zero_le _, rfl, rfl, Lib.hid (List.length_replicate ..), Lib.hid (Nat.zero_le _), hL, hR, hF⟩
      case round =>
        clear hL hR hF
        obtain ⟨j, c, fr, hj, rfl, rfl, hfl, hcc, hL, hR, hF⟩ := hrel
        have hc3 : c ≤ 300 := by
          have h1 := hcc.out
          have h2 := List.count_le_length (a := true) (l := fr)
          have h3 := hfl.out
          omega
        by_cases hjL : j < L
        · have hjL' : (j : Int) < (L : Int) := by omega
          have hjl : j < ys.length := by rw [hLn.out]; exact hjL
          obtain ⟨ad, rfl, hcv⟩ := (hx2.out.below (hB1h.out.trans (hL.out.bel.mono hB1h.out.size))).intAtK hjl
          obtain ⟨v1, v2⟩ := wf64K (hww.out _ (List.getElem_mem hjl))
          obtain ⟨v, hv⟩ : ∃ v, Hid (ys[j]'hjl = v) := ⟨_, Lib.hid rfl⟩
          rw [hv.out] at hcv v1 v2
          have hq1 : Int.tmod v (i : Int) < (i : Int) := Int.tmod_lt_of_pos _ (by omega)
          have hq2 : -(i : Int) < Int.tmod v (i : Int) := Int.lt_tmod_of_pos _ (by omega)
          have hi0 : (i : Int) ≠ 0 := by omega
          by_cases hneg : Int.tmod v (i : Int) < 0
          · obtain ⟨k, hk⟩ : ∃ k : Nat, IntKind.i64.wrap (Int.tmod v (i : Int) + (i : Int)) = (k : Int) ∧ (k : Int) = Int.tmod v (i : Int) + (i : Int) := ⟨(Int.tmod v (i : Int) + (i : Int)).toNat, by rw [IntKind.wrap_i64]; omega, by omega⟩
            obtain ⟨hk, hk2⟩ := hk
            have hki : k < i := by omega
            have hkl : Hid (k < fr.length) := Lib.hid (by rw [hfl.out]; exact hki)
            have hwf : IntKind.i64.wrap (n1 + (k : Int)) = n1 + (k : Int) := by rw [IntKind.wrap_i64]; omega
            have hwc : IntKind.i64.wrap ((c : Int) + 1) = (c : Int) + 1 := by rw [IntKind.wrap_i64]; omega
            clear hk2 hq1 hq2 v1 v2
            cases hfk : fr.getD k false with
            | false =>
              have hC := Lib.hid ((hL.out.give hM.out (Apt.zero _ _ _) hki).mono (R' := fun e w' => e = .returned (.int .i64 0) ∧ P2 w1 w' gl g gt 80 x V [0] 0 i (frT (fr.set k true)) 0 0 (fun _ => false) (fun k => k = q ∨ k = gf) ∧ KeepX (fun k => k = q ∨ k = gf) wr w') (by
                rintro e w' (⟨_, b, c, d⟩ | ⟨a, _⟩)
                · exact ⟨b, c.congr fun j _ => frT_set hkl.out hfk j, d⟩
                · unfold frT at a; rw [hfk] at a; cases a))
              go_wp2_with (with_reducible refine stop_load 29 ?_)
              refine Stop.mk (wpList_load_cells rfl rfl rfl (load_pool hR.out) ?_)
              go_wp2_with fail
              refine hC.out.mono ?_
              rintro e w9 ⟨rfl, hL2, hK⟩
              have hR := hK.blk hR.out (.inl rfl)
              have hF := hK.blk hF.out (.inr rfl)
              have hcell := (hF.cell k).trans (bls_at fr k hkl.out)
              rw [hfk] at hcell
              have hfz := hF.frozen k
              have hset := hF.set_ k (.bool true)
              rw [bls_set] at hset
              have hch : Chg (fun j => j = gf) w9 (w9.setCell ⟨gf, k, none⟩ (.bool true)) := (Chg.refl (fun j => j = gf) w9).setCell (p := ⟨gf, k, none⟩) (fun _ => rfl) _
              have hL3 := Lib.hid (hL2.own hch (fun m hm => ⟨.inr hm, by rw [show m = gf from hm]; exact hg1.out⟩) (fun m cs hb hm => by subst hm; cases hF.symm.trans hb) (fun m cs hb hm => by subst hm; cases hF.symm.trans hb))
              have hR3 := Lib.hid (hR.far (p := ⟨gf, k, none⟩) (fun e => (hR.ne_ hF (by decide)) e) (.bool true))
              have hF3 := Lib.hid hset
              have hc4 : Hid (c + 1 ≤ (fr.set k true).count true) := Lib.hid (by rw [count_new hkl.out hfk]; exact Nat.succ_le_succ hcc.out)
              have hfl2 : Hid ((fr.set k true).length = i) := Lib.hid (by rw [List.length_set]; exact hfl.out)
              clear hC hK hL hR hF hset hch hL2 hfk hcc hfl
              go_wp2
              go_roundw
              case rel => exact ⟨j + 1, c + 1, fr.set k true, by omega, by go_num, by go_num, hfl2, hc4, hL3, hR3, hF3⟩
              case measure => simp [RowKit.intOf]; omega
            | true =>
              have hC := Lib.hid ((hL.out.give hM.out (Apt.zero _ _ _) hki).mono (R' := fun e w' => e = .returned (.int .i64 1) ∧ P2 w1 w' gl g gt 80 x V [0] 0 i (frT fr) 0 0 (fun _ => false) (fun k => k = q ∨ k = gf) ∧ KeepX (fun k => k = q ∨ k = gf) wr w') (by
                rintro e w' (⟨a, _⟩ | ⟨_, b, c, d⟩)
                · unfold frT at a; rw [hfk] at a; cases a
                · exact ⟨b, c, d⟩))
              go_wp2_with (with_reducible refine stop_load 29 ?_)
              refine Stop.mk (wpList_load_cells rfl rfl rfl (load_pool hR.out) ?_)
              go_wp2_with fail
              refine hC.out.mono ?_
              rintro e w9 ⟨rfl, hL2, hK⟩
              have hR := hK.blk hR.out (.inl rfl)
              have hF := hK.blk hF.out (.inr rfl)
              have hcell := (hF.cell k).trans (bls_at fr k hkl.out)
              rw [hfk] at hcell
              have hfz := hF.frozen k
              have hset := hF.set_ k (.bool true)
              rw [bls_set, set_same hkl.out hfk] at hset
              have hch : Chg (fun j => j = gf) w9 (w9.setCell ⟨gf, k, none⟩ (.bool true)) := (Chg.refl (fun j => j = gf) w9).setCell (p := ⟨gf, k, none⟩) (fun _ => rfl) _
              have hL3 := Lib.hid (hL2.own hch (fun m hm => ⟨.inr hm, by rw [show m = gf from hm]; exact hg1.out⟩) (fun m cs hb hm => by subst hm; cases hF.symm.trans hb) (fun m cs hb hm => by subst hm; cases hF.symm.trans hb))
              have hR3 := Lib.hid (hR.far (p := ⟨gf, k, none⟩) (fun e => (hR.ne_ hF (by decide)) e) (.bool true))
              have hF3 := Lib.hid hset
              clear hC hK hL hR hF hset hch hL2 hfk
              go_wp2
              go_roundw
              case rel => exact ⟨j + 1, c, fr, by omega, by go_num, rfl, hfl, hcc, hL3, hR3, hF3⟩
              case measure => simp [RowKit.intOf]; omega
          · obtain ⟨k, hk⟩ : ∃ k : Nat, Int.tmod v (i : Int) = (k : Int) := ⟨(Int.tmod v (i : Int)).toNat, by omega⟩
            rw [hk] at hneg hq1 hq2
            have hki : k < i := by omega
            have hkl : Hid (k < fr.length) := Lib.hid (by rw [hfl.out]; exact hki)
            have hwf : IntKind.i64.wrap (n1 + (k : Int)) = n1 + (k : Int) := by rw [IntKind.wrap_i64]; omega
            have hwc : IntKind.i64.wrap ((c : Int) + 1) = (c : Int) + 1 := by rw [IntKind.wrap_i64]; omega
            clear hq1 hq2 v1 v2
            cases hfk : fr.getD k false with
            | false =>
              have hC := Lib.hid ((hL.out.give hM.out (Apt.zero _ _ _) hki).mono (R' := fun e w' => e = .returned (.int .i64 0) ∧ P2 w1 w' gl g gt 80 x V [0] 0 i (frT (fr.set k true)) 0 0 (fun _ => false) (fun k => k = q ∨ k = gf) ∧ KeepX (fun k => k = q ∨ k = gf) wr w') (by
                rintro e w' (⟨_, b, c, d⟩ | ⟨a, _⟩)
                · exact ⟨b, c.congr fun j _ => frT_set hkl.out hfk j, d⟩
                · unfold frT at a; rw [hfk] at a; cases a))
              go_wp2_with (with_reducible refine stop_load 29 ?_)
              refine Stop.mk (wpList_load_cells rfl rfl rfl (load_pool hR.out) ?_)
              go_wp2_with fail
              refine hC.out.mono ?_
              rintro e w9 ⟨rfl, hL2, hK⟩
              have hR := hK.blk hR.out (.inl rfl)
              have hF := hK.blk hF.out (.inr rfl)
              have hcell := (hF.cell k).trans (bls_at fr k hkl.out)
              rw [hfk] at hcell
              have hfz := hF.frozen k
              have hset := hF.set_ k (.bool true)
              rw [bls_set] at hset
              have hch : Chg (fun j => j = gf) w9 (w9.setCell ⟨gf, k, none⟩ (.bool true)) := (Chg.refl (fun j => j = gf) w9).setCell (p := ⟨gf, k, none⟩) (fun _ => rfl) _
              have hL3 := Lib.hid (hL2.own hch (fun m hm => ⟨.inr hm, by rw [show m = gf from hm]; exact hg1.out⟩) (fun m cs hb hm => by subst hm; cases hF.symm.trans hb) (fun m cs hb hm => by subst hm; cases hF.symm.trans hb))
              have hR3 := Lib.hid (hR.far (p := ⟨gf, k, none⟩) (fun e => (hR.ne_ hF (by decide)) e) (.bool true))
              have hF3 := Lib.hid hset
              have hc4 : Hid (c + 1 ≤ (fr.set k true).count true) := Lib.hid (by rw [count_new hkl.out hfk]; exact Nat.succ_le_succ hcc.out)
              have hfl2 : Hid ((fr.set k true).length = i) := Lib.hid (by rw [List.length_set]; exact hfl.out)
              clear hC hK hL hR hF hset hch hL2 hfk hcc hfl
              go_wp2
              go_roundw
              case rel => exact ⟨j + 1, c + 1, fr.set k true, by omega, by go_num, by go_num, hfl2, hc4, hL3, hR3, hF3⟩
              case measure => simp [RowKit.intOf]; omega
            | true =>
              have hC := Lib.hid ((hL.out.give hM.out (Apt.zero _ _ _) hki).mono (R' := fun e w' => e = .returned (.int .i64 1) ∧ P2 w1 w' gl g gt 80 x V [0] 0 i (frT fr) 0 0 (fun _ => false) (fun k => k = q ∨ k = gf) ∧ KeepX (fun k => k = q ∨ k = gf) wr w') (by
                rintro e w' (⟨a, _⟩ | ⟨_, b, c, d⟩)
                · unfold frT at a; rw [hfk] at a; cases a
                · exact ⟨b, c, d⟩))
              go_wp2_with (with_reducible refine stop_load 29 ?_)
              refine Stop.mk (wpList_load_cells rfl rfl rfl (load_pool hR.out) ?_)
              go_wp2_with fail
              refine hC.out.mono ?_
              rintro e w9 ⟨rfl, hL2, hK⟩
              have hR := hK.blk hR.out (.inl rfl)
              have hF := hK.blk hF.out (.inr rfl)
              have hcell := (hF.cell k).trans (bls_at fr k hkl.out)
              rw [hfk] at hcell
              have hfz := hF.frozen k
              have hset := hF.set_ k (.bool true)
              rw [bls_set, set_same hkl.out hfk] at hset
              have hch : Chg (fun j => j = gf) w9 (w9.setCell ⟨gf, k, none⟩ (.bool true)) := (Chg.refl (fun j => j = gf) w9).setCell (p := ⟨gf, k, none⟩) (fun _ => rfl) _
              have hL3 := Lib.hid (hL2.own hch (fun m hm => ⟨.inr hm, by rw [show m = gf from hm]; exact hg1.out⟩) (fun m cs hb hm => by subst hm; cases hF.symm.trans hb) (fun m cs hb hm => by subst hm; cases hF.symm.trans hb))
              have hR3 := Lib.hid (hR.far (p := ⟨gf, k, none⟩) (fun e => (hR.ne_ hF (by decide)) e) (.bool true))
              have hF3 := Lib.hid hset
              clear hC hK hL hR hF hset hch hL2 hfk
              go_wp2
              go_roundw
              case rel => exact ⟨j + 1, c, fr, by omega, by go_num, rfl, hfl, hcc, hL3, hR3, hF3⟩
              case measure => simp [RowKit.intOf]; omega
        · obtain rfl : L = j := by omega
          have hjL' : ¬ (L : Int) < (L : Int) := by omega
          have hL := Lib.hid (hL.out.congr (S := fjT fr 0) fun k _ => by unfold fjT; simp)
          clear hjL
          go_wp2
          go_loopw [20] (fun iv wr => ∃ k : Nat, k ≤ i ∧ iv = .int .i64 (k : Int) ∧ Hid (P2 w1 wr gl g gt 80 x V [0] 0 i (fjT fr k) 0 0 (fun _ => false) (fun k => k = q ∨ k = gf)) ∧ Hid (Blk wr q 29 #[.int .i64 0, .int .i64 n1, .int .i64 (i : Int)]) ∧ Hid (Blk wr gf 4 (bls fr))) (fun iv _ => i - (RowKit.intOf iv).toNat)
          case atStart => exact ⟨0, Nat.zero_le _, rfl, hL, hR, hF⟩
          case round =>
            clear hL hR hF
            obtain ⟨k, hk, rfl, hL, hR, hF⟩ := hrel
            by_cases hki : k < i
            · have hki' : (k : Int) < (i : Int) := by omega
              have hcell := (hF.out.cell k).trans (bls_at fr k (by rw [hfl.out]; exact hki))
              cases hfk : fr.getD k false with
              | false =>
                rw [hfk] at hcell
                have hL2 := Lib.hid (hL.out.congr (S := fjT fr (k + 1)) fun j _ => fjT_skip hfk j)
                clear hL hfk
                go_wp2
                go_roundw
                case rel => exact ⟨k + 1, by omega, by go_num, hL2, hR, hF⟩
                case measure => simp [RowKit.intOf]; omega
              | true =>
                rw [hfk] at hcell
                have hwr : IntKind.i64.wrap (n1 + (k : Int)) = n1 + (k : Int) := by rw [IntKind.wrap_i64]; omega
                have hC := Lib.hid ((hL.out.take hM.out (Apt.zero _ _ _)).mono (R' := fun e w' => e = .returned (.tuple #[.int .i64 (n1 + (k : Int)), .int .i64 0]) ∧ P2 w1 w' gl g gt 80 x V [0] 0 i (fjT fr (k + 1)) 0 0 (fun _ => false) (fun k => k = q ∨ k = gf) ∧ KeepX (fun k => k = q ∨ k = gf) wr w') (by
                  rintro e w' (⟨a, _⟩ | ⟨k2, a, b, c, d⟩)
                  · rw [fjT_least hki hfk] at a; cases a
                  · rw [fjT_least hki hfk] at a
                    obtain rfl : k = k2 := Option.some.inj a
                    exact ⟨b, c.congr fun j _ => fjT_flip hfk j, d⟩))
                clear hfk
                go_wp2_with (with_reducible refine stop_load 29 ?_)
                refine Stop.mk (wpList_load_cells rfl rfl rfl (load_pool hR.out) ?_)
                go_wp2_with fail
                refine hC.out.mono ?_
                rintro e w9 ⟨rfl, hL2, hK⟩
                have hR := Lib.hid (hK.blk hR.out (.inl rfl))
                have hF := Lib.hid (hK.blk hF.out (.inr rfl))
                have hL2 := Lib.hid hL2
                clear hC hK hL hcell
                go_wp2
                go_roundw
                case rel => exact ⟨k + 1, by omega, by go_num, hL2, hR, hF⟩
                case measure => simp [RowKit.intOf]; omega
            · obtain rfl : i = k := by omega
              have hki' : ¬ (i : Int) < (i : Int) := by omega
              have hFr := hL.out.free hM.out
              rw [fjT_cnt, show (i : Int) - (i : Int) = 0 by omega] at hFr
              have hFr := Lib.hid hFr
              have hci : (c : Int) ≤ (i : Int) := by
                have h1 := hcc.out
                have h2 := List.count_le_length (a := true) (l := fr)
                have h3 := hfl.out
                omega
              go_wp2_with (with_reducible refine stop_load 29 ?_)
              refine Stop.mk (wpList_load_cells rfl rfl rfl (load_pool hR.out) ?_)
              go_wp2_with fail
              refine hFr.out.mono ?_
              rintro e w9 ⟨rfl, hb⟩
              have hbf := Lib.hid (hB1h.out.trans ((hL.out.bel.trans (hb.mono hL.out.bel.size)).mono hB1h.out.size))
              clear hFr hb hL hR
              go_wp2
              go_ret
              exact ⟨rfl, hbf.out⟩
end Go.Proofs.Ytefbmbfhhhjgkaa
