/- The walk of CachePins. -/
import Derived.Test.YtfapehgjiglflaaCpp
namespace Go.Proofs.Ytfapehgjiglflaa
open Go.RowKit
def bvl (P : List Nat) : List Value := (List.range 40).map fun n => Value.bool (decide (n ∈ P))
/-- A caller's own block turns. -/
theorem CS.put_far {w0 w : World} {gc g N : Nat} {c : Ck} {d : Dk} (h : CS w0 w gc g N c d) {b t : Nat} {cs : Array Value} (hb : Blk w b t cs) (h1 : ¬ (kindK t ∨ t = 74 ∨ t = 31)) (h2 : t ≠ 5) (h3 : t ≠ 3) (hw : w0.heap.size ≤ b) (i : Nat) (u : Value) : CS w0 (w.setCell ⟨b, i, none⟩ u) gc g N c d := by
  obtain ⟨mb, ns, S, hk, hB, hS⟩ := h
  have hc : Chg (fun j => j = b) w (w.setCell ⟨b, i, none⟩ u) := chg_set ⟨b, i, none⟩ u
  refine ⟨mb, ns, S, hk.chg hc (fun j hj e => ?_) (fun j hj e => ?_) (fun j cs' hj e => ?_) (fun j cs' hj e => ?_), hB.trans (hc.below hB.size (fun j e => e ▸ hw)), hS⟩
  · subst e
    rcases hk.dk.kind hj hb with e | e
    · exact h1 (.inr (.inl e))
    · exact h1 (.inr (.inr e))
  · subst e
    exact hk.notk hb (fun hk => h1 (.inl hk)) hj
  · subst e
    exact absurd rfl (hj.ne_ hb (fun e => h2 e.symm))
  · subst e
    exact absurd rfl (hj.ne_ hb (fun e => h3 e.symm))
theorem bvl_at (P : List Nat) {n : Nat} (h : n < 40) : (bvl P).toArray[n]? = some (.bool (decide (n ∈ P))) := by
  rw [List.getElem?_toArray]
  unfold bvl
  rw [List.getElem?_map, List.getElem?_range h]
  rfl
theorem bvl_set (P : List Nat) (n : Nat) : (bvl P).toArray.setIfInBounds n (.bool true) = (bvl (n :: P)).toArray := by
  rw [List.setIfInBounds_toArray]
  congr 1
  apply List.ext_getElem?
  intro i
  unfold bvl
  rcases Nat.lt_or_ge i 40 with h | h
  · by_cases e : n = i
    · subst e
      rw [List.getElem?_set_self (by simp; exact h), List.getElem?_map, List.getElem?_range h]
      simp
    · rw [List.getElem?_set_ne e, List.getElem?_map, List.getElem?_map, List.getElem?_range h]
      simp only [Option.map_some, List.mem_cons]
      have hiff : (i = n ∨ i ∈ P) ↔ i ∈ P := ⟨fun h => h.resolve_left (fun h => e h.symm), .inr⟩
      simp only [hiff]
  · rw [List.getElem?_eq_none (by simp; exact h), List.getElem?_eq_none (by simp; exact h)]
theorem bvl_cons {P : List Nat} {n : Nat} (h : n ∈ P) : bvl (n :: P) = bvl P := by
  unfold bvl
  refine List.map_congr_left fun i _ => ?_
  congr 2
  simp only [List.mem_cons, eq_iff_iff]
  exact ⟨fun h' => by rcases h' with rfl | h'; exact h; exact h', .inr⟩
set_option maxRecDepth 100000 in
set_option maxHeartbeats 16000000 in
theorem CachePins_calls (w : World) {n0 : Int} {x1 : Value} {ys1 : List Int} {x2 : Value} {ys2 : List Int} (ww0 : (Lit.int .i64 n0).wf = true) (xx1 : Rd w x1 (ys1.map (Value.int .i64))) (ll1 : ys1.length ≤ 9223372036854775807) (ww1 : ∀ n ∈ ys1, (Lit.int .i64 n).wf = true) (xx2 : Rd w x2 (ys2.map (Value.int .i64))) (ll2 : ys2.length ≤ 9223372036854775807) (ww2 : ∀ n ∈ ys2, (Lit.int .i64 n).wf = true) :
    Calls Try.prog 4 #[.int .i64 n0, x1, x2] w fun e w' => e = .returned (.bool true) ∧ Below w.heap.size w w' := by
  obtain ⟨n1, n2⟩ := wf64K ww0
  obtain ⟨A1, c1, rfl⟩ : ∃ A c, x1 = .slice A ys1.length c := by
    obtain ⟨A, c, e, _⟩ := xx1
    exact ⟨A, c, by rw [e, List.length_map]⟩
  obtain ⟨A2, c2, rfl⟩ : ∃ A c, x2 = .slice A ys2.length c := by
    obtain ⟨A, c, e, _⟩ := xx2
    exact ⟨A, c, by rw [e, List.length_map]⟩
  have hx1 := Lib.hid xx1
  have hx2 := Lib.hid xx2
  clear xx1 ww1 ww0 xx2 ww2
  by_cases hg1 : n0 < 1
  · go_enter Try.func4, Try.ntmps4
    go_wp2_with fail
    refine (known_calls w).mono ?_
    rintro e w1 ⟨rfl, hB1⟩
    go_wp2
    go_ret
    exact ⟨rfl, hB1⟩
  by_cases hg2 : 20 < n0
  · go_enter Try.func4, Try.ntmps4
    go_wp2_with fail
    refine (known_calls w).mono ?_
    rintro e w1 ⟨rfl, hB1⟩
    go_wp2
    go_ret
    exact ⟨rfl, hB1⟩
  by_cases hg3 : 20 < ys1.length
  · go_enter Try.func4, Try.ntmps4
    go_wp2_with fail
    refine (known_calls w).mono ?_
    rintro e w1 ⟨rfl, hB1⟩
    go_wp2
    go_ret
    exact ⟨rfl, hB1⟩
  by_cases hg4 : 100 < ys2.length
  · go_enter Try.func4, Try.ntmps4
    go_wp2_with fail
    refine (known_calls w).mono ?_
    rintro e w1 ⟨rfl, hB1⟩
    go_wp2
    go_ret
    exact ⟨rfl, hB1⟩
  obtain ⟨sz, rfl⟩ : ∃ k : Nat, n0 = k := ⟨n0.toNat, by omega⟩
  have hs1 : 1 ≤ sz := by omega
  have hs2 : sz ≤ 20 := by omega
  have hL : ys1.length ≤ 20 := by omega
  have hM : ys2.length ≤ 100 := by omega
  have hat1 : Hid (∀ (W : World) (hB : Below w.heap.size w W) k (hk : k < ys1.length), ∃ ad, A1 = some ad ∧ W.cell? (ad.add k) = some (.int .i64 ys1[k])) := fun W hB k hk => (hx1.out.below hB).intAtK hk
  have hat2 : Hid (∀ (W : World) (hB : Below w.heap.size w W) k (hk : k < ys2.length), ∃ ad, A2 = some ad ∧ W.cell? (ad.add k) = some (.int .i64 ys2[k])) := fun W hB k hk => (hx2.out.below hB).intAtK hk
  clear hx1 hx2 n1 n2 hg1 hg2 hg3 hg4
  go_enter Try.func4, Try.ntmps4
  go_wp2_with fail
  refine (known_calls w).mono ?_
  rintro e w1 ⟨rfl, hB1⟩
  go_wp2_with fail
  refine (NewB_calls w1 40 (by omega) (by omega)).mono ?_
  rintro e w2 ⟨g, S, rfl, hdk, hb2, hS⟩
  have hN := Lib.hid (NewC_calls (N := 40) w w2 hdk (hB1.trans (hb2.mono hB1.size)) (fun j hj => Nat.le_trans hB1.size (hS j hj)) (sz : Int) (by omega) (by omega))
  clear hdk hb2 hS
  go_wp2_with fail
  refine hN.out.mono ?_
  rintro e w3 ⟨gc, rfl, hc0⟩
  have hc0 : CS w w3 gc g 40 (newC sz) (dN 40) := hc0
  have hz : (bvl []).toArray = #[.bool false, .bool false, .bool false, .bool false, .bool false, .bool false, .bool false, .bool false, .bool false, .bool false, .bool false, .bool false, .bool false, .bool false, .bool false, .bool false, .bool false, .bool false, .bool false, .bool false, .bool false, .bool false, .bool false, .bool false, .bool false, .bool false, .bool false, .bool false, .bool false, .bool false, .bool false, .bool false, .bool false, .bool false, .bool false, .bool false, .bool false, .bool false, .bool false, .bool false] := by kernel_rfl
  have hb0 : Blk (w3.alloc (.cells #[.bool false, .bool false, .bool false, .bool false, .bool false, .bool false, .bool false, .bool false, .bool false, .bool false, .bool false, .bool false, .bool false, .bool false, .bool false, .bool false, .bool false, .bool false, .bool false, .bool false, .bool false, .bool false, .bool false, .bool false, .bool false, .bool false, .bool false, .bool false, .bool false, .bool false, .bool false, .bool false, .bool false, .bool false, .bool false, .bool false, .bool false, .bool false, .bool false, .bool false] 38)) w3.heap.size 38 (bvl []).toArray := by rw [hz]; exact Blk.new _ _ _
  have hc1 := Lib.hid (hc0.go (alloc_belowK w3 (.cells #[.bool false, .bool false, .bool false, .bool false, .bool false, .bool false, .bool false, .bool false, .bool false, .bool false, .bool false, .bool false, .bool false, .bool false, .bool false, .bool false, .bool false, .bool false, .bool false, .bool false, .bool false, .bool false, .bool false, .bool false, .bool false, .bool false, .bool false, .bool false, .bool false, .bool false, .bool false, .bool false, .bool false, .bool false, .bool false, .bool false, .bool false, .bool false, .bool false, .bool false] 38)))
  have hbw : w.heap.size ≤ w3.heap.size := hc0.bel.size
  have hb0 := Lib.hid hb0
  clear hz
  have hp0 : Hid (PInv sz 0 (newC sz) []) := ⟨rfl, List.nodup_nil, List.nodup_nil, Nat.zero_le _, (fun h hh => absurd hh (by simp [newC])), (fun h hh => absurd hh (by simp [newC])), (fun h hh => absurd hh (by simp [newC])), (fun p hp => absurd hp (by simp)), (fun h hh => absurd hh (by simp [newC])), (fun p hp => absurd hp (by simp)), (fun h hh => absurd hh (by simp [newC])), (fun h hh => absurd hh (by simp [newC]))⟩
  have ha0 : Hid (∀ x ∈ (newC sz).l, x.n ∈ ([] : List Nat)) := fun h hh => absurd hh (by simp [newC])
  clear hN hB1 hc0
  obtain ⟨L, hLL⟩ : ∃ L, Hid (L = ys1.length) := ⟨_, rfl⟩
  rw [← hLL.out] at hL ⊢
  obtain ⟨M, hMM⟩ : ∃ M, Hid (M = ys2.length) := ⟨_, rfl⟩
  rw [← hMM.out] at hM ⊢
  go_wp2
  generalize w3.heap.size = b at *
  go_loopw [11, 13, 14, 15] (fun hv iv _ _ wr => ∃ (k q : Nat) (P : List Nat) (c : Ck), k ≤ L ∧ hv = .int .i64 (q : Int) ∧ iv = .int .i64 (k : Int) ∧ Hid (q = P.length) ∧ Hid (CS w wr gc g 40 c (dN 40)) ∧ Hid (PInv sz (k : Int) c P) ∧ Hid (∀ x ∈ c.l, x.n ∈ P) ∧ Hid (Blk wr b 38 (bvl P).toArray)) (fun _ iv _ _ _ => L - (RowKit.intOf iv).toNat)
  case atStart => exact ⟨0, 0, [], _, Nat.zero_le _, rfl, rfl, rfl, hc1, hp0, ha0, hb0⟩
  case round =>
    obtain ⟨k, q, P, c, hk, rfl, rfl, hq, hcs, hpi, hall, hbl⟩ := hrel
    clear hc1 hp0 ha0 hb0
    have hq20 : q ≤ 20 := by rw [hq.out]; have h1 := hpi.out.ple; have h2 := hpi.out.len; omega
    by_cases hlt : k < L
    · have hkL : k < ys1.length := by rw [← hLL.out]; exact hlt
      obtain ⟨ad1, rfl, hy⟩ := hat1.out wr hcs.out.bel k hkL
      obtain ⟨nn, hnn⟩ : ∃ nn : Nat, (nn : Int) = ys1[k] % 32 := ⟨(ys1[k] % 32).toNat, by omega⟩
      have hn32 : nn < 32 := by omega
      have hand : bits .and .i64 ys1[k] 31 = (nn : Int) := by rw [hnn]; exact and_mask ys1[k] 5 (by decide)
      obtain ⟨g2, g3, g4, g5⟩ := hpi.out.pinN (n := nn) (by omega) hall.out hn32
      have hG := CS.pin hcs.out (by omega) hpi.out.ok (nn : Int)
      rw [g2] at hG
      generalize hpn : pinP c (dN 40) 40 (nn : Int) = o at *
      have hG := Lib.hid hG
      generalize ys1[k] = y1 at *
      have hni : (nn : Int) < 40 := by omega
      have hseti : Hid ((bvl P).toArray.setIfInBounds nn (.bool true) = (bvl (nn :: P)).toArray) := bvl_set P nn
      clear hcs hnn
      by_cases hm : nn ∈ P
      · obtain ⟨e1, e2, e3⟩ := g3 hm
        have e2 := Lib.hid e2
        have e3 := Lib.hid e3
        clear g3 g4 g5 hpn hpi hall
        have hbc := Lib.hid (bvl_cons hm)
        rw [e1] at hG
        go_wp2_with fail
        refine hG.out.mono ?_
        rintro e w5 ⟨rfl, hc5, hkp⟩
        have hb5 : Blk w5 b 38 (bvl P).toArray := hkp.2 _ _ _ hbl.out (by unfold kindK; decide) (by decide) (by decide)
        have z1 : w5.cell? ⟨b, nn, none⟩ = some (.bool true) := by rw [hb5.cell, bvl_at P (by omega), decide_eq_true hm]
        have fz := hb5.frozen nn
        have hb6 : Hid (Blk (w5.setCell ⟨b, nn, none⟩ (.bool true)) b 38 (bvl P).toArray) := by
          have := hb5.set_ nn (.bool true)
          rw [hseti.out, hbc.out] at this
          exact this
        have hc6 := Lib.hid (CS.put_far hc5 hb5 (by unfold kindK; decide) (by decide) (by decide) hbw nn (.bool true))
        have e2' : Hid (PInv sz ((k + 1 : Nat) : Int) o.2.1 P) := e2.out
        clear hc5 hkp hb5 hG hy hbl hm e2
        go_wp2
        go_roundw
        case rel => exact ⟨k + 1, q, P, _, by omega, rfl, by go_num, hq, hc6, e2', e3, hb6⟩
        case measure => simp [RowKit.intOf]; omega
      · by_cases hqs : q < sz
        · obtain ⟨e1, e2, e3⟩ := g4 hm (by rw [← hq.out]; exact hqs)
          have e2 := Lib.hid e2
          have e3 := Lib.hid e3
          clear g3 g4 g5 hpn hpi hall
          rw [e1] at hG
          go_wp2_with fail
          refine hG.out.mono ?_
          rintro e w5 ⟨rfl, hc5, hkp⟩
          have hb5 : Blk w5 b 38 (bvl P).toArray := hkp.2 _ _ _ hbl.out (by unfold kindK; decide) (by decide) (by decide)
          have z1 : w5.cell? ⟨b, nn, none⟩ = some (.bool false) := by rw [hb5.cell, bvl_at P (by omega), decide_eq_false hm]
          have fz := hb5.frozen nn
          have hb6 : Hid (Blk (w5.setCell ⟨b, nn, none⟩ (.bool true)) b 38 (bvl (nn :: P)).toArray) := by
            have := hb5.set_ nn (.bool true)
            rw [hseti.out] at this
            exact this
          have hc6 := Lib.hid (CS.put_far hc5 hb5 (by unfold kindK; decide) (by decide) (by decide) hbw nn (.bool true))
          have e2' : Hid (PInv sz ((k + 1 : Nat) : Int) o.2.1 (nn :: P)) := e2.out
          have hq1 : Hid (q + 1 = (nn :: P).length) := by show _ = _; rw [hq.out]; rfl
          clear hc5 hkp hb5 hG hy hbl hm e2
          go_wp2
          go_roundw
          case rel => exact ⟨k + 1, q + 1, nn :: P, _, by omega, by go_num, by go_num, hq1, hc6, e2', e3, hb6⟩
          case measure => simp [RowKit.intOf]; omega
        · obtain ⟨e1, e2⟩ := g5 hm (by rw [← hq.out]; exact hqs)
          clear g3 g4 g5 hpn
          rw [e1, e2] at hG
          go_wp2_with fail
          refine hG.out.mono ?_
          rintro e w5 ⟨rfl, hc5, hkp⟩
          have hb5 : Blk w5 b 38 (bvl P).toArray := hkp.2 _ _ _ hbl.out (by unfold kindK; decide) (by decide) (by decide)
          have z1 : w5.cell? ⟨b, nn, none⟩ = some (.bool false) := by rw [hb5.cell, bvl_at P (by omega), decide_eq_false hm]
          have hb5 := Lib.hid hb5
          have hc5 := Lib.hid hc5
          have hpi' : Hid (PInv sz ((k + 1 : Nat) : Int) c P) := hpi.out.mono (by omega)
          clear hkp hG hy hbl hm hpi
          go_wp2
          go_roundw
          case rel => exact ⟨k + 1, q, P, c, by omega, rfl, by go_num, hq, hc5, hpi', hall, hb5⟩
          case measure => simp [RowKit.intOf]; omega
    · obtain rfl : k = L := by omega
      clear hall
      go_wp2
      go_loopw [16, 17, 18, 19] (fun iv _ _ _ wr => ∃ (j : Nat) (c : Ck), j ≤ M ∧ iv = .int .i64 (j : Int) ∧ Hid (CS w wr gc g 40 c (dN 40)) ∧ Hid (PInv sz (k : Int) c P) ∧ Hid (Blk wr b 38 (bvl P).toArray)) (fun iv _ _ _ _ => M - (RowKit.intOf iv).toNat)
      case atStart => exact ⟨0, c, Nat.zero_le _, rfl, hcs, hpi, hbl⟩
      case round =>
        obtain ⟨j, c, hj, rfl, hcs, hpi, hbl⟩ := hrel
        by_cases hlt2 : j < M
        · have hjM : j < ys2.length := by rw [← hMM.out]; exact hlt2
          obtain ⟨ad2, rfl, hy⟩ := hat2.out wr hcs.out.bel j hjM
          obtain ⟨nn, hnn⟩ : ∃ nn : Nat, (nn : Int) = ys2[j] % 8 := ⟨(ys2[j] % 8).toNat, by omega⟩
          have hn8 : nn < 8 := by omega
          have hand : bits .and .i64 ys2[j] 7 = (nn : Int) := by rw [hnn]; exact and_mask ys2[j] 3 (by decide)
          obtain ⟨g1, g2, g3⟩ := hpi.out.get (n := 32 + nn) (by omega) (by omega)
          have hG := CS.get hcs.out (by omega) hpi.out.ok ((32 + nn : Nat) : Int) (fun x hx => by rw [g3.b512 x hx]; omega)
          rw [g2] at hG
          generalize getP c (dN 40) 40 ((32 + nn : Nat) : Int) = o at *
          have hG := Lib.hid hG
          have g3 := Lib.hid g3
          have hge : Hid (((o.1 : Int) == 0) = decide ((q : Int) < (sz : Int))) := by
            show _ = _
            rw [g1, ← hq.out]
            by_cases e : q < sz
            · rw [decide_eq_true e, decide_eq_true (by omega)]
            · rw [decide_eq_false e, decide_eq_false (by omega)]
          have hcst : ((32 + nn : Nat) : Int) = 32 + (nn : Int) := by omega
          rw [hcst] at hG
          generalize ys2[j] = y2 at *
          clear hcs hnn hpi g1 hcst
          go_wp2_with fail
          refine hG.out.mono ?_
          rintro e w5 ⟨hc5, hr, hkp⟩
          obtain ⟨vA, vn, vc, rfl⟩ := hr.val
          have hb5 : Hid (Blk w5 b 38 (bvl P).toArray) := hkp.2 _ _ _ hbl.out (by unfold kindK; decide) (by decide) (by decide)
          have hc5 := Lib.hid hc5
          obtain ⟨f, hf⟩ : ∃ f, Hid (f = o.1) := ⟨_, rfl⟩
          rw [← hf.out] at hge ⊢
          have hge2 := hge.out
          clear hkp hr hG hy hbl
          go_wp2
          go_roundw
          case rel => exact ⟨j + 1, _, by omega, by go_num, hc5, g3, hb5⟩
          case measure => simp [RowKit.intOf]; omega
        · obtain rfl : j = M := by omega
          have hH := Lib.hid (CS.held hcs.out (by omega))
          have hcnt := Lib.hid hpi.out.count
          obtain ⟨hL2, hhL⟩ : ∃ hL2, Hid (heldL c 40 = hL2) := ⟨_, rfl⟩
          rw [hhL.out] at hH hcnt
          have hlo : Hid (∀ x ∈ hL2, x < 40) := fun x hx => by
            rw [← hhL.out] at hx
            unfold heldL at hx
            exact (mem_which.1 hx).1
          have hl40 : hL2.length ≤ 40 := by
            have hnd : hL2.Nodup := by rw [← hhL.out]; exact List.Pairwise.filter _ List.nodup_range
            exact nodup_le hnd hlo.out
          clear hcs hpi
          go_wp2_with fail
          refine hH.out.mono ?_
          rintro e w5 ⟨⟨hv, rfl, hrd, hB5⟩, hc5⟩
          obtain ⟨hA, hcc, rfl⟩ := hrd.shapeN
          have hrd := Lib.hid hrd
          have hb5 : Hid (Blk w5 b 38 (bvl P).toArray) := (hB5.block _ hbl.out.lt).trans hbl.out
          have hBe := Lib.hid hc5.bel
          obtain ⟨Q, hQ⟩ : ∃ Q, Hid (Q = hL2.length) := ⟨_, rfl⟩
          rw [← hQ.out] at hl40 hrd ⊢
          clear hB5 hc5 hH hbl
          go_wp2
          go_loop [21, 22] (fun kv iv => ∃ (m t : Nat), m ≤ Q ∧ iv = .int .i64 (m : Int) ∧ kv = .int .i64 (t : Int) ∧ t ≤ m ∧ Hid (t = ((hL2.take m).filter fun n => decide (n ∈ P)).length)) (fun _ iv => Q - (RowKit.intOf iv).toNat)
          case atStart => exact ⟨0, 0, Nat.zero_le _, rfl, rfl, Nat.le_refl _, rfl⟩
          case round =>
            obtain ⟨m, t, hm, rfl, rfl, htm, ht⟩ := hrel
            by_cases hmq : m < Q
            · have hml : m < hL2.length := by rw [← hQ.out]; exact hmq
              obtain ⟨ad, rfl, z0⟩ := hrd.out.natAt hml
              have hx40 := hlo.out _ (List.getElem_mem hml)
              have hnx : Hid (((hL2.take (m + 1)).filter fun n => decide (n ∈ P)).length = ((hL2.take m).filter fun n => decide (n ∈ P)).length + (if hL2[m] ∈ P then 1 else 0)) := by
                show _ = _
                rw [List.take_succ_eq_append_getElem hml, List.filter_append, List.length_append]
                congr 1
                by_cases e : hL2[m] ∈ P <;> simp [e]
              have z1 : w5.cell? ⟨b, hL2[m], none⟩ = some (.bool (decide (hL2[m] ∈ P))) := by rw [hb5.out.cell, bvl_at P hx40]
              generalize hL2[m] = xm at *
              have hxi : (xm : Int) < 40 := by omega
              by_cases hxP : xm ∈ P
              · rw [decide_eq_true hxP] at z1
                have ht1 : Hid (t + 1 = ((hL2.take (m + 1)).filter fun n => decide (n ∈ P)).length) := by show _ = _; rw [hnx.out, if_pos hxP, ht.out]
                clear hnx ht hxP
                go_wp2
                go_round
                case rel => exact ⟨m + 1, t + 1, by omega, by go_num, by go_num, by omega, ht1⟩
                case measure => simp [RowKit.intOf]; omega
              · rw [decide_eq_false hxP] at z1
                have ht1 : Hid (t = ((hL2.take (m + 1)).filter fun n => decide (n ∈ P)).length) := by show _ = _; rw [hnx.out, if_neg hxP, ht.out]; rfl
                clear hnx ht hxP
                go_wp2
                go_round
                case rel => exact ⟨m + 1, t, by omega, by go_num, rfl, by omega, ht1⟩
                case measure => simp [RowKit.intOf]; omega
            · obtain rfl : m = Q := by omega
              have htq : Hid (t = q) := by
                show _ = _
                rw [ht.out, hQ.out, List.take_length, hcnt.out, hq.out]
              have htq2 := htq.out
              subst htq2
              clear ht htq hrd
              go_wp2
              go_ret
              exact ⟨rfl, hBe.out⟩
end Go.Proofs.Ytfapehgjiglflaa
