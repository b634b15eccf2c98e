/- The walk of DirGrows. -/
import Derived.Test.YtoloogpglnonaaaDpg
namespace Go.Proofs.Ytoloogpglnonaaa
open Go.RowKit
theorem rd_int {w : World} {A : Option Addr} {n c : Nat} {us : List Int} (h : Rd w (.slice A n c) (us.map (Value.int .i64))) {k : Nat} (hk : k < us.length) : ∃ ad, A = some ad ∧ w.cell? (ad.add k) = some (.int .i64 us[k]) := by
  obtain ⟨ad, c', e, hc⟩ := h.cell (j := k) (by simpa using hk)
  injection e with e1 _ _
  exact ⟨ad, e1, by rw [hc]; simp⟩
set_option maxRecDepth 100000 in
set_option maxHeartbeats 8000000 in
theorem DirGrows_calls (w : World) {n0 : Int} {x1 : Value} {ys : List Int} (ww0 : (Lit.int .i64 n0).wf = true) (xx1 : Rd w x1 (ys.map (Value.int .i64))) (ll1 : ys.length ≤ 9223372036854775807) (ww1 : ∀ n ∈ ys, (Lit.int .i64 n).wf = true) :
    Calls Try.prog 3 #[.int .i64 n0, x1] w fun e w' => e = .returned (.bool true) ∧ Below w.heap.size w w' := by
  obtain ⟨n1, n2⟩ := wf64 ww0
  clear ww1
  obtain ⟨A, c, rfl⟩ : ∃ A c, x1 = .slice A ys.length c := by
    obtain ⟨A, c, e, _⟩ := xx1
    exact ⟨A, c, by rw [e, List.length_map]⟩
  have hx0 := Lib.hid xx1
  clear xx1
  by_cases hg : n0 < 0
  · go_enter Try.func3, Try.ntmps3
    go_wp2_with fail
    refine (dknown_calls w).mono ?_
    rintro e w1 ⟨rfl, hB1⟩
    go_wp2
    go_ret
    exact ⟨rfl, hB1⟩
  by_cases hg2 : 60 < n0
  · go_enter Try.func3, Try.ntmps3
    go_wp2_with fail
    refine (dknown_calls w).mono ?_
    rintro e w1 ⟨rfl, hB1⟩
    go_wp2
    go_ret
    exact ⟨rfl, hB1⟩
  by_cases hg3 : 60 < ys.length
  · go_enter Try.func3, Try.ntmps3
    go_wp2_with fail
    refine (dknown_calls w).mono ?_
    rintro e w1 ⟨rfl, hB1⟩
    go_wp2
    go_ret
    exact ⟨rfl, hB1⟩
  obtain ⟨N, rfl⟩ : ∃ N : Nat, n0 = (N : Int) := ⟨n0.toNat, by omega⟩
  have hN : N ≤ 60 := by omega
  have hy : ys.length ≤ 60 := by omega
  have hdN : ((N : Int) + 7) / 8 * 512 = (dblocks N : Int) := by unfold dblocks; omega
  have hdN := Lib.hid hdN
  have hNs := Lib.hid (show ∀ k : Nat, (dblocks k : Int) = ((k : Int) + 7) / 8 * 512 from fun k => by unfold dblocks; omega)
  clear hg hg2 hg3
  go_enter Try.func3, Try.ntmps3
  go_wp2_with fail
  refine (dknown_calls w).mono ?_
  rintro e w1 ⟨rfl, hB1⟩
  go_wp2
  go_loopw [5, 6, 7] (fun s sum i wr => ∃ (k : Nat) (v : Value), k ≤ N ∧ i = .int .i64 k ∧ sum = .int .i64 (dblocks k) ∧ s = v ∧ Hid (RdE wr v (genE k)) ∧ Hid (Below w.heap.size w wr)) (fun _ _ i _ => N - (intOf i).toNat)
  case atStart => exact ⟨0, _, Nat.zero_le _, rfl, rfl, rfl, RdE.nil _, hB1⟩
  case round =>
    obtain ⟨k, s, hk, rfl, rfl, hs, hR, hB⟩ := hrel
    have hs := hs.symm
    subst hs
    clear hB1
    by_cases hlt : k < N
    · have hNm := Lib.hid (name_calls wr k (by omega))
      obtain ⟨dd, hdd, hPg⟩ : ∃ dd : Int, dd = (dblocks (k + 1) : Int) - (dblocks k : Int) ∧ Hid (putP (genE k) (nameK k) ((k : Int) + 1) = (genE (k + 1), dd, 0)) := ⟨_, rfl, put_gen k (by omega)⟩
      have hsum : (dblocks k : Int) + dd = (dblocks (k + 1) : Int) := by omega
      have hb1 : (dblocks (k + 1) : Int) ≤ 1000000 := by unfold dblocks; omega
      have hb0 : (0 : Int) ≤ (dblocks k : Int) := by omega
      have hb2 : (dblocks k : Int) ≤ 1000000 := by unfold dblocks; omega
      have hb3 : (-1000000 : Int) ≤ dd ∧ dd ≤ 1000000 := by omega
      obtain ⟨hb3, hb4⟩ := hb3
      clear hdd
      go_wp2_with fail
      refine hNm.out.mono ?_
      rintro e w3 ⟨rfl, hB3⟩
      have hB3' := Lib.hid (hB.out.trans (hB3.mono hB.out.size))
      have hP := Put_calls w3 s (genE k) (nameK k) ((k : Int) + 1) (hR.out.below hB3) (by rw [genE_len]; omega) (by rw [nameK_len]; decide)
      rw [hPg.out] at hP
      have hP := Lib.hid hP
      clear hNm hPg hB3 hR hB
      go_wp2_with fail
      refine hP.out.mono ?_
      rintro e w4 ⟨v4, rfl, ho4, hB4, _⟩
      have hB4' := Lib.hid (hB3'.out.trans (hB4.mono hB3'.out.size))
      have hR4 := Lib.hid ho4.rd
      clear hP hB3' ho4 hB4
      go_wp2
      go_roundw
      case rel => exact ⟨k + 1, _, by omega, rfl, rfl, rfl, hR4, hB4'⟩
      case measure => simp [intOf]; omega
    · obtain rfl : k = N := by omega
      obtain ⟨es, hes⟩ : ∃ es, Hid (es = genE k) := ⟨_, Lib.hid rfl⟩
      have hgs : Hid (GS k 0 es) := by rw [hes.out]; exact GS.gen k
      have hfr0 : Hid (frees es = 0) := by rw [hes.out]; exact frees_gen k
      have hsh : Hid (∀ e ∈ es, e.name.length ≤ 1000000) := by rw [hes.out]; exact genE_short k
      rw [← hes.out] at hR
      have hlen : Hid (es.length = k) := hgs.out.len
      obtain ⟨sA, sc, rfl⟩ := hR.out.shape
      have hR0 := hR.out
      rw [hlen.out] at hR0 ⊢
      have hRh := Lib.hid hR0
      have hBy := Bytes_calls wr _ es hR0 (by rw [hlen.out]; omega) hsh.out
      have hdl : (dbytes es).length = dblocks k := by rw [dbytes_len, hlen.out]
      have hBy := Lib.hid hBy
      have hdlh := Lib.hid hdl
      have hb2 : (dblocks k : Int) ≤ 1000000 := by unfold dblocks; omega
      have hdN2 := hdN.out
      clear hR hR0 hdl
      generalize dblocks k = D at *
      go_wp2_with fail
      refine hBy.out.mono ?_
      rintro e w5 ⟨r5, rfl, ho5, hB5, _⟩
      have hsh5 := ho5.shape
      rw [hdlh.out] at hsh5
      obtain ⟨rA, rc, rfl⟩ := hsh5
      have hB5' := Lib.hid (hB.out.trans (hB5.mono hB.out.size))
      have hR5 := Lib.hid (hRh.out.below hB5)
      clear ho5 hB5 hB hRh hBy
      go_wp2
      go_loopw [5, 11, 12] (fun s t i wr => ∃ (j m : Nat) (v : Value) (es : List Ent), j ≤ ys.length ∧ i = .int .i64 j ∧ t = .int .i64 m ∧ s = v ∧ Hid (RdE wr v es) ∧ Hid (GS k 0 es) ∧ Hid (frees es = m) ∧ Hid (Below w.heap.size w wr)) (fun _ _ i _ => ys.length - (intOf i).toNat)
      case atStart => exact ⟨0, 0, _, es, Nat.zero_le _, rfl, rfl, rfl, hR5, hgs, hfr0, hB5'⟩
      case round =>
        clear hR5 hB5' hgs hfr0 hsh hlen hdlh
        obtain ⟨j, m, s, es, hj, rfl, rfl, hs, hR, hgs, hfr, hB⟩ := hrel
        have hs := hs.symm
        subst hs
        have hm60 : m ≤ 60 := by have := frees_le es; have := hgs.out.len; have := hfr.out; omega
        by_cases hlt2 : j < ys.length
        · obtain ⟨ad, rfl, hc⟩ := rd_int (hx0.out.below hB.out) hlt2
          generalize ys[j] = y at *
          obtain ⟨q, hq⟩ : ∃ q : Nat, y % 64 = (q : Int) := ⟨(y % 64).toNat, by omega⟩
          have hq64 : q < 64 := by omega
          have hand : bits .and .i64 y 63 = (q : Int) := by
            rw [show (63 : Int) = ((2 ^ 6 - 1 : Nat) : Int) from rfl, and_mask _ 6 (by decide)]
            exact hq
          clear hq
          have hNm := Lib.hid (name_calls wr q (by omega))
          go_wp2_with fail
          refine hNm.out.mono ?_
          rintro e w6 ⟨rfl, hB6⟩
          have hB6' := Lib.hid (hB.out.trans (hB6.mono hB.out.size))
          have hR6 := Lib.hid (hR.out.below hB6)
          have hT := Take_calls w6 s es (nameK q) hR6.out (by have := hgs.out.len; omega)
          have hTh := Lib.hid hT
          have htk := Lib.hid (hgs.out.take hN hq64)
          clear hT hNm hB6 hR hB
          go_wp2_with fail
          refine hTh.out.mono ?_
          rintro e w7 ⟨v7, rfl, ho7, hB7, _⟩
          have hB7' := Lib.hid (hB6'.out.trans (hB7.mono hB6'.out.size))
          have hR7 := Lib.hid (hR6.out.below hB7)
          rcases htk.out with htk1 | ⟨es', htk1, hgs2, hfr2⟩
          · rw [htk1]
            clear hTh htk ho7 hB7 hR6 hB6' htk1
            go_wp2
            go_roundw
            case rel => exact ⟨j + 1, m, _, es, by omega, by go_num, rfl, rfl, hR7, hgs, hfr, hB7'⟩
            case measure => simp [intOf]; omega
          · rw [htk1] at ho7
            rw [htk1]
            have hR8 : Hid (RdE w7 v7 es') := ho7.rd
            have hgs2h := Lib.hid hgs2
            have hfr2h : Hid (frees es' = m + 1) := by rw [hfr2, hfr.out]; rfl
            clear hTh htk ho7 hB7 hR6 hB6' htk1 hR7 hgs2 hfr2
            go_wp2
            go_roundw
            case rel => exact ⟨j + 1, m + 1, _, es', by omega, by go_num, by go_num, rfl, hR8, hgs2h, hfr2h, hB7'⟩
            case measure => simp [intOf]; omega
        · obtain rfl : j = ys.length := by omega
          go_wp2
          go_loopw [5, 17] (fun s i wr => ∃ (i3 : Nat) (v : Value) (es : List Ent), i3 ≤ m ∧ i = .int .i64 i3 ∧ s = v ∧ Hid (RdE wr v es) ∧ Hid (GS k i3 es) ∧ Hid (frees es + i3 = m) ∧ Hid (Below w.heap.size w wr)) (fun _ i _ => m - (intOf i).toNat)
          case atStart => exact ⟨0, _, es, Nat.zero_le _, rfl, rfl, hR, hgs, hfr, hB⟩
          case round =>
            clear hR hgs hfr hB
            obtain ⟨i3, s, es, hi3, rfl, hs, hR, hgs, hfr, hB⟩ := hrel
            have hs := hs.symm
            subst hs
            by_cases hlt3 : i3 < m
            · have hNm := Lib.hid (name_calls wr i3 (by omega))
              obtain ⟨es', hpt, hgs2, hfr2⟩ := hgs.out.put hN (show i3 < 64 by omega) (by have := hfr.out; omega)
              have hgs2h := Lib.hid hgs2
              have hpth := Lib.hid hpt
              have hfr2h : Hid (frees es' + (i3 + 1) = m) := by have := hfr.out; show _ = _; omega
              have hcat : ∀ W : World, Sem.run Try.prog (binOp .add 9 (.string ⟨#[97, 103, 97, 105, 110]⟩) (.string ⟨(nameK i3).toArray⟩)) W = .ok (.string ⟨(agK i3).toArray⟩) W := by
                intro W
                rfl
              clear hpt hgs2 hfr2
              go_wp2_with fail
              refine hNm.out.mono ?_
              rintro e w6 ⟨rfl, hB6⟩
              have hB6' := Lib.hid (hB.out.trans (hB6.mono hB.out.size))
              have hP := Put_calls w6 s es (agK i3) 9 (hR.out.below hB6) (by have := hgs.out.len; omega) (by simp [agK, nameK_len])
              rw [hpth.out] at hP
              have hPh := Lib.hid hP
              clear hP hNm hB6 hR hB
              go_wp2_with fail
              refine hPh.out.mono ?_
              rintro e w7 ⟨v7, rfl, ho7, hB7, _⟩
              have hB7' := Lib.hid (hB6'.out.trans (hB7.mono hB6'.out.size))
              have hR7 := Lib.hid ho7.rd
              clear hPh hB6' ho7 hB7 hpth
              go_wp2
              go_roundw
              case rel => exact ⟨i3 + 1, _, es', by omega, by go_num, rfl, hR7, hgs2h, hfr2h, hB7'⟩
              case measure => simp [intOf]; omega
            · obtain rfl : i3 = m := by omega
              have hNmC := Lib.hid (Names_calls wr s es hR.out (by have := hgs.out.len; omega))
              have hrl : Hid ((rawN es).length = k) := by have := rawN_frees es; have := hfr.out; have := hgs.out.len; show _ = _; omega
              obtain ⟨sA, sc, rfl⟩ := hR.out.shape
              have hln : es.length = k := hgs.out.len
              rw [hln] at hNmC ⊢
              clear hln
              go_wp2_with fail
              refine hNmC.out.mono ?_
              rintro e w8 ⟨A8, c8, rfl, hB8, _⟩
              rw [hrl.out]
              have hBe := hB.out.trans (hB8.mono hB.out.size)
              clear hrl
              go_wp2
              go_ret
              exact ⟨rfl, hBe⟩
end Go.Proofs.Ytoloogpglnonaaa
