/- The walk of CacheWrites. -/
import Derived.Test.YtfapehgjiglflaaCqp
namespace Go.Proofs.Ytfapehgjiglflaa
open Go.RowKit
theorem CS.writes {w0 w : World} {gc g N : Nat} {c : Ck} {d : Dk} (h : CS w0 w gc g N c d) :
    Calls Try.prog 21 #[.pointer (some ⟨g, 0, none⟩)] w (Ans w (.int .i64 d.wr)) := by
  obtain ⟨mb, ns, S, hk, hB, hS⟩ := h
  exact Writes_callsF w g d _ hk.dk
set_option maxRecDepth 100000 in
set_option maxHeartbeats 16000000 in
theorem CacheWrites_calls (w : World) {n0 : Int} {x1 : Value} {ys1 : List Int} {x2 : Value} {ys2 : List Int} (ww0 : (Lit.int .i64 n0).wf = true) (xx1 : Rd w x1 (ys1.map (Value.int .i64))) (ll1 : ys1.length ≤ 9223372036854775807) (ww1 : ∀ n ∈ ys1, (Lit.int .i64 n).wf = true) (xx2 : Rd w x2 (ys2.map (Value.int .i64))) (ll2 : ys2.length ≤ 9223372036854775807) (ww2 : ∀ n ∈ ys2, (Lit.int .i64 n).wf = true) :
    Calls Try.prog 6 #[.int .i64 n0, x1, x2] w fun e w' => e = .returned (.bool true) ∧ Below w.heap.size w w' := by
  obtain ⟨n1, n2⟩ := wf64K ww0
  obtain ⟨A1, c1, rfl⟩ : ∃ A c, x1 = .slice A ys1.length c := by
    obtain ⟨A, c, e, _⟩ := xx1
    exact ⟨A, c, by rw [e, List.length_map]⟩
  obtain ⟨A2, c2, rfl⟩ : ∃ A c, x2 = .slice A ys2.length c := by
    obtain ⟨A, c, e, _⟩ := xx2
    exact ⟨A, c, by rw [e, List.length_map]⟩
  have hx1 := Lib.hid xx1
  have hx2 := Lib.hid xx2
  clear xx1 ww1 ww0 xx2 ww2
  by_cases hg1 : n0 < 1
  · go_enter Try.func6, Try.ntmps6
    go_wp2_with fail
    refine (known_calls w).mono ?_
    rintro e w1 ⟨rfl, hB1⟩
    go_wp2
    go_ret
    exact ⟨rfl, hB1⟩
  by_cases hg2 : 10 < n0
  · go_enter Try.func6, Try.ntmps6
    go_wp2_with fail
    refine (known_calls w).mono ?_
    rintro e w1 ⟨rfl, hB1⟩
    go_wp2
    go_ret
    exact ⟨rfl, hB1⟩
  by_cases hg3 : 60 < ys1.length
  · go_enter Try.func6, Try.ntmps6
    go_wp2_with fail
    refine (known_calls w).mono ?_
    rintro e w1 ⟨rfl, hB1⟩
    go_wp2
    go_ret
    exact ⟨rfl, hB1⟩
  by_cases hg4 : 60 < ys2.length
  · go_enter Try.func6, Try.ntmps6
    go_wp2_with fail
    refine (known_calls w).mono ?_
    rintro e w1 ⟨rfl, hB1⟩
    go_wp2
    go_ret
    exact ⟨rfl, hB1⟩
  obtain ⟨sz, rfl⟩ : ∃ k : Nat, n0 = k := ⟨n0.toNat, by omega⟩
  have hs1 : 1 ≤ sz := by omega
  have hs2 : sz ≤ 10 := by omega
  have hL : ys1.length ≤ 60 := by omega
  have hM : ys2.length ≤ 60 := by omega
  have hat1 : Hid (∀ (W : World) (hB : Below w.heap.size w W) k (hk : k < ys1.length), ∃ ad, A1 = some ad ∧ W.cell? (ad.add k) = some (.int .i64 ys1[k])) := fun W hB k hk => (hx1.out.below hB).intAtK hk
  have hat2 : Hid (∀ (W : World) (hB : Below w.heap.size w W) k (hk : k < ys2.length), ∃ ad, A2 = some ad ∧ W.cell? (ad.add k) = some (.int .i64 ys2[k])) := fun W hB k hk => (hx2.out.below hB).intAtK hk
  clear hx1 hx2 n1 n2 hg1 hg2 hg3 hg4
  go_enter Try.func6, Try.ntmps6
  go_wp2_with fail
  refine (known_calls w).mono ?_
  rintro e w1 ⟨rfl, hB1⟩
  go_wp2_with fail
  refine (NewB_calls w1 16 (by omega) (by omega)).mono ?_
  rintro e w2 ⟨g, S, rfl, hdk, hb2, hS⟩
  have hN := Lib.hid (NewC_calls (N := 16) w w2 hdk (hB1.trans (hb2.mono hB1.size)) (fun j hj => Nat.le_trans hB1.size (hS j hj)) (sz : Int) (by omega) (by omega))
  clear hdk hb2 hS
  go_wp2_with fail
  refine hN.out.mono ?_
  rintro e w3 ⟨gc, rfl, hc0⟩
  have hc0 : CS w w3 gc g 16 (newC sz) (dN 16) := hc0
  have hc0 := Lib.hid hc0
  have hcl0 : Hid (∃ us, Cln 16 sz (newC sz) us ∧ Cnt 0 (newC sz) us) := ⟨[], ⟨rfl, rfl, List.nodup_nil, Nat.zero_le _, (fun u hu => absurd hu (by simp)), (fun h hh => absurd hh (by simp [newC])), (fun h hh => absurd hh (by simp [newC]))⟩, ⟨Int.le_refl _, Int.le_refl _, rfl, rfl, Int.le_refl _⟩⟩
  clear hN hB1
  obtain ⟨L, hLL⟩ : ∃ L, Hid (L = ys1.length) := ⟨_, rfl⟩
  rw [← hLL.out] at hL ⊢
  obtain ⟨M, hMM⟩ : ∃ M, Hid (M = ys2.length) := ⟨_, rfl⟩
  rw [← hMM.out] at hM ⊢
  go_wp2
  go_loopw [11] (fun iv wr => ∃ (k : Nat) (c : Ck), k ≤ M ∧ iv = .int .i64 (k : Int) ∧ Hid (CS w wr gc g 16 c (dN 16)) ∧ Hid (∃ us, Cln 16 sz c us ∧ Cnt k c us)) (fun iv _ => M - (RowKit.intOf iv).toNat)
  case atStart => exact ⟨0, _, Nat.zero_le _, rfl, hc0, hcl0⟩
  case round =>
    obtain ⟨k, c, hk, rfl, hcs, hcl⟩ := hrel
    clear hc0 hcl0
    by_cases hlt : k < M
    · have hkL : k < ys2.length := by rw [← hMM.out]; exact hlt
      obtain ⟨ad1, rfl, hy⟩ := hat2.out wr hcs.out.bel k hkL
      obtain ⟨nn, hnn⟩ : ∃ nn : Nat, (nn : Int) = ys2[k] % 16 := ⟨(ys2[k] % 16).toNat, by omega⟩
      have hn16 : nn < 16 := by omega
      have hand : bits .and .i64 ys2[k] 15 = (nn : Int) := by rw [hnn]; exact and_mask ys2[k] 4 (by decide)
      obtain ⟨us, hcl, hct⟩ := hcl.out
      obtain ⟨g0, g2, g3, g4⟩ := hcl.get (n := nn) hct hs1 hn16 (by omega)
      have hG := CS.get hcs.out (by omega) hcl.ok (nn : Int) (fun x hx => by rw [g3.b512 x hx]; omega)
      rw [g2] at hG
      generalize getP c (dN 16) 16 (nn : Int) = o at *
      have hG := Lib.hid hG
      have g5 : Hid (∃ us, Cln 16 sz o.2.1 us ∧ Cnt (k + 1) o.2.1 us) := ⟨_, g3, g4⟩
      generalize ys2[k] = y1 at *
      clear hcs hnn hcl hct g0 g2 g3 g4
      go_wp2_with fail
      refine hG.out.mono ?_
      rintro e w5 ⟨hc5, hr, _⟩
      obtain ⟨vA, vn, vc, rfl⟩ := hr.val
      have hc5 := Lib.hid hc5
      clear hr hG hy
      go_wp2
      go_roundw
      case rel => exact ⟨k + 1, _, by omega, by go_num, hc5, g5⟩
      case measure => simp [RowKit.intOf]; omega
    · obtain rfl : k = M := by omega
      have hq0 : Hid (QInv sz 100 c (dN 16)) := by
        obtain ⟨us, hcl, hct⟩ := hcl.out
        exact QInv.start hcl hct hM
      have hz0 : (dirtyL c 16).length = 0 := by
        obtain ⟨us, hcl, hct⟩ := hcl.out
        rw [dirty_len hq0.out.nd hq0.out.lo, List.length_eq_zero_iff, List.filter_eq_nil_iff]
        intro x hx
        rw [(hcl.cl x hx).2]
        simp
      obtain ⟨hq1, hw1, _, _⟩ := hq0.out.flush (by omega) hs2
      have hq1 := Lib.hid hq1
      rw [hz0] at hw1
      have hw1 : (flushD c (dN 16) 16).wr = 0 := hw1
      have hw1 := Lib.hid hw1
      have hW := CS.writes hcs.out
      have hWd : (dN 16).wr = 0 := rfl
      rw [hWd] at hW
      have hW := Lib.hid hW
      have hF := Lib.hid (CS.flush hcs.out (by omega) (hq0.out.ok (by omega)) (by have := hq0.out.wt; omega) hq0.out.of (by rw [hq0.out.ar]; omega))
      clear hcs hcl hz0 hWd hq0 hat2 hlt hMM
      generalize flushC c 16 = cf at *
      generalize flushD c (dN 16) 16 = df at *
      go_wp2_with fail
      refine hW.out.mono ?_
      rintro e w4 ⟨rfl, rfl⟩
      go_wp2_with fail
      refine hF.out.mono ?_
      rintro e w5 ⟨rfl, hc5⟩
      have hW2 := CS.writes hc5
      rw [hw1.out] at hW2
      have hW2 := Lib.hid hW2
      have hc5 := Lib.hid hc5
      clear hF hW
      go_wp2_with fail
      refine hW2.out.mono ?_
      rintro e w6 ⟨rfl, rfl⟩
      clear hW2 hw1
      go_wp2
      go_loopw [12, 13, 14, 15, 16, 17, 18, 19, 20, 21, 22] (fun iv _ _ _ _ _ _ _ _ _ _ wr => ∃ (j : Nat) (c : Ck) (d : Dk), j ≤ L ∧ iv = .int .i64 (j : Int) ∧ Hid (CS w wr gc g 16 c d) ∧ Hid (QInv sz (116 + j) c d)) (fun iv _ _ _ _ _ _ _ _ _ _ _ => L - (RowKit.intOf iv).toNat)
      case atStart => exact ⟨0, _, _, Nat.zero_le _, rfl, hc5, hq1⟩
      case round =>
        obtain ⟨j, c, d, hj, rfl, hcs, hqi⟩ := hrel
        clear hc5 hq1
        by_cases hlt2 : j < L
        · have hjL : j < ys1.length := by rw [← hLL.out]; exact hlt2
          obtain ⟨ad2, rfl, hy⟩ := hat1.out wr hcs.out.bel j hjL
          obtain ⟨nn, hnn⟩ : ∃ nn : Nat, (nn : Int) = ys1[j] % 16 := ⟨(ys1[j] % 16).toNat, by omega⟩
          have hn16 : nn < 16 := by omega
          have hand : bits .and .i64 ys1[j] 15 = (nn : Int) := by rw [hnn]; exact and_mask ys1[j] 4 (by decide)
          generalize ys1[j] = y1 at *
          obtain ⟨b, hb⟩ : ∃ b : UInt8, (b.toNat : Int) = (j : Int) + 1 := ⟨UInt8.ofNat (j + 1), by rw [UInt8.toNat_ofNat']; omega⟩
          have hFO := fun W => FullOne W b
          unfold bv at hFO
          rw [hb] at hFO
          have hFO := Lib.hid hFO
          obtain ⟨p1, p2, p3, p4, p5, p6⟩ := hqi.out.put hs1 (by omega) hn16 (P := fullP [b]) (fullP_len _)
          have hdb : (dirtyL c 16).length ≤ 16 := nodup_le (List.Pairwise.filter _ List.nodup_range) (fun k hk => (mem_which.1 hk).1)
          have hok := Lib.hid (hqi.out.ok (by omega))
          have hwr := hqi.out.wr
          have hev := hqi.out.ev
          have p2 : Hid (QInv sz (116 + (j + 1)) (putP c d 16 nn (fullP [b])).2.1 (putP c d 16 nn (fullP [b])).2.2) := p2
          have hD := Lib.hid (CS.dirty hcs.out (by omega))
          have hW := CS.writes hcs.out
          have hlD : Hid ((dirtyL c 16).length = (dirtyL c 16).length) := rfl
          have hP := Lib.hid (fun (w' : World) (h : CS w w' gc g 16 c d) (x : Value) hx => CS.put h (by omega) hok.out (nn : Int) x (fullP [b]) hx)
          generalize fullP [b] = P at *
          generalize putP c d 16 (nn : Int) P = o at *
          generalize dirtyL c 16 = dl at *
          have hS := Lib.hid (fun (w' : World) (h : CS w w' gc g 16 c d) => CS.stats h)
          obtain ⟨W0, hW0⟩ : ∃ W0, Hid (d.wr = W0) := ⟨_, rfl⟩
          obtain ⟨E0, hE0⟩ : ∃ E0, Hid (c.evs = E0) := ⟨_, rfl⟩
          obtain ⟨q, hq⟩ : ∃ q, Hid (dl.length = q) := ⟨_, rfl⟩
          rw [hW0.out] at hW hwr p3 p4
          rw [hE0.out] at hev p4 p5 hS
          rw [hq.out] at hdb p6
          have hW := Lib.hid hW
          clear hnn hb hlD hok hqi
          go_wp2_with fail
          refine hW.out.mono ?_
          rintro e w4 ⟨rfl, rfl⟩
          clear hW
          go_wp2_with fail
          refine hD.out.mono ?_
          rintro e w5 ⟨⟨hv, rfl, hrd, _⟩, hc5⟩
          obtain ⟨hA, hcc, rfl⟩ := hrd.shapeN
          rw [hq.out]
          have hS5 := Lib.hid (hS.out w5 hc5)
          clear hrd hcs hD hc5 hy hS
          go_wp2_with fail
          refine hS5.out.mono ?_
          rintro e w6 ⟨rfl, hc6, _⟩
          have hF6 := Lib.hid (hFO.out w6)
          have hc6 := Lib.hid hc6
          clear hS5 hFO
          go_wp2_with fail
          refine hF6.out.mono ?_
          rintro e w7 ⟨fA, fc, rfl, hfo, hfb⟩
          have hP7 := Lib.hid (hP.out w7 (hc6.out.go hfb) (.slice fA 512 fc) (RdT.of_own (F := fun _ => True) (t := 5) (base := 0) hfo (fun _ _ => trivial)))
          clear hP hc6 hfo hfb hF6
          go_wp2_with fail
          refine hP7.out.mono ?_
          rintro e w8 ⟨rfl, hc8, _⟩
          have hS8 := Lib.hid (CS.stats hc8)
          obtain ⟨E1, hE1⟩ : ∃ E1, Hid (o.2.1.evs = E1) := ⟨_, rfl⟩
          obtain ⟨W1, hW1⟩ : ∃ W1, Hid (o.2.2.wr = W1) := ⟨_, rfl⟩
          obtain ⟨q1, hq1⟩ : ∃ q1, Hid ((dirtyL o.2.1 16).length = q1) := ⟨_, rfl⟩
          rw [hE1.out] at p4 p5 hS8
          rw [hW1.out] at p3 p4
          rw [hq1.out] at p6
          have t1 : ¬ (W1 - W0 < 0) := by omega
          have t2 : ¬ (E1 - E0 < W1 - W0) := by omega
          have t3 : ¬ (1 < E1 - E0) := by omega
          have t4 : ¬ ((q : Int) + 1 < (q1 : Int)) := by omega
          have hwb : W1 ≤ 2000 ∧ 0 ≤ W1 ∧ E1 ≤ 2000 ∧ 0 ≤ E1 := by omega
          obtain ⟨v1, v2, v3, v4⟩ := hwb
          obtain ⟨v5, v6⟩ := hwr
          obtain ⟨v7, v8⟩ := hev
          clear hP7 hc8
          go_wp2_with fail
          refine hS8.out.mono ?_
          rintro e w9 ⟨rfl, hc9, _⟩
          have hW9 := CS.writes hc9
          rw [hW1.out] at hW9
          have hW9 := Lib.hid hW9
          clear hS8
          go_wp2_with fail
          refine hW9.out.mono ?_
          rintro e wa ⟨rfl, rfl⟩
          have hDa := Lib.hid (CS.dirty hc9 (by omega))
          clear hW9 hc9
          go_wp2_with fail
          refine hDa.out.mono ?_
          rintro e wb ⟨⟨hv, rfl, hrd, _⟩, hcb⟩
          obtain ⟨hA2, hcc2, rfl⟩ := hrd.shapeN
          rw [hq1.out]
          have hcb := Lib.hid hcb
          clear hrd hDa
          go_wp2
          go_roundw
          case rel => exact ⟨j + 1, _, _, by omega, by go_num, hcb, p2⟩
          case measure => simp [RowKit.intOf]; omega
        · obtain rfl : j = L := by omega
          have hwr := hqi.out.wr
          obtain ⟨hq1, hw1, hz1, hl1⟩ := hqi.out.flush (by omega) hs2
          obtain ⟨hq2, hw2, hz2, hl2⟩ := hq1.flush (by omega) hs2
          rw [hz1] at hw2
          rw [hw1] at hw2
          have hw1 := Lib.hid hw1
          have hw2 : (flushD (flushC c 16) (flushD c d 16) 16).wr = d.wr + ((dirtyL c 16).length : Int) := by rw [hw2]; simp
          have hw2 := Lib.hid hw2
          have hW := CS.writes hcs.out
          have hD := Lib.hid (CS.dirty hcs.out (by omega))
          have hF := Lib.hid (fun (w' : World) (h : CS w w' gc g 16 c d) => CS.flush h (by omega) (hqi.out.ok (by omega)) (by have := hqi.out.wt; omega) hqi.out.of (by rw [hqi.out.ar]; omega))
          have hF2 := Lib.hid (fun (w' : World) (h : CS w w' gc g 16 (flushC c 16) (flushD c d 16)) => CS.flush h (by omega) (hq1.ok (by omega)) (by have := hq1.wt; omega) hq1.of (by rw [hq1.ar]; omega))
          have hhl : (heldL (flushC (flushC c 16) 16) 16).length ≤ sz := by rw [held_len hq2.nd hq2.lo]; exact hq2.len
          generalize flushC (flushC c 16) 16 = c3 at *
          generalize flushD (flushC c 16) (flushD c d 16) 16 = d3 at *
          generalize flushC c 16 = c2' at *
          generalize flushD c d 16 = d2 at *
          generalize dirtyL c 16 = dl at *
          obtain ⟨q, hq⟩ : ∃ q, Hid (dl.length = q) := ⟨_, rfl⟩
          obtain ⟨W0, hW0⟩ : ∃ W0, Hid (d.wr = W0) := ⟨_, rfl⟩
          rw [hW0.out] at hW hwr hw1 hw2
          rw [hq.out] at hl1 hw1 hw2
          obtain ⟨v5, v6⟩ := hwr
          have hW := Lib.hid hW
          clear hq1 hq2 hz1 hz2 hl2 hqi hcs
          go_wp2_with fail
          refine hW.out.mono ?_
          rintro e w4 ⟨rfl, rfl⟩
          clear hW
          go_wp2_with fail
          refine hD.out.mono ?_
          rintro e w5 ⟨⟨hv, rfl, hrd, _⟩, hc5⟩
          obtain ⟨hA, hcc, rfl⟩ := hrd.shapeN
          rw [hq.out]
          have hF5 := Lib.hid (hF.out w5 hc5)
          clear hrd hD hc5 hF
          go_wp2_with fail
          refine hF5.out.mono ?_
          rintro e w6 ⟨rfl, hc6⟩
          have hW6 := CS.writes hc6
          rw [hw1.out] at hW6
          have hW6 := Lib.hid hW6
          have hF6 := Lib.hid (hF2.out _ hc6)
          clear hF5 hF2 hc6
          go_wp2_with fail
          refine hW6.out.mono ?_
          rintro e w7 ⟨rfl, rfl⟩
          go_wp2_with fail
          refine hF6.out.mono ?_
          rintro e w8 ⟨rfl, hc8⟩
          have hW8 := CS.writes hc8
          rw [hw2.out] at hW8
          have hW8 := Lib.hid hW8
          have hH8 := Lib.hid (CS.held hc8 (by omega))
          clear hF6 hW6 hc8
          go_wp2_with fail
          refine hW8.out.mono ?_
          rintro e w9 ⟨rfl, rfl⟩
          go_wp2_with fail
          refine hH8.out.mono ?_
          rintro e wa ⟨⟨hv, rfl, hrd, _⟩, hca⟩
          obtain ⟨hA2, hcc2, rfl⟩ := hrd.shapeN
          have hBe := Lib.hid hca.bel
          generalize (heldL c3 16).length = q3 at *
          clear hrd hH8 hca
          go_wp2
          go_ret
          exact ⟨rfl, hBe.out⟩
end Go.Proofs.Ytfapehgjiglflaa
