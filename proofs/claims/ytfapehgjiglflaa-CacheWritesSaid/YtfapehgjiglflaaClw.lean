/- The walk of CacheLoses. -/
import Derived.Test.YtfapehgjiglflaaClp
namespace Go.Proofs.Ytfapehgjiglflaa
open Go.RowKit
theorem CS.flush {w0 w : World} {gc g N : Nat} {c : Ck} {d : Dk} (h : CS w0 w gc g N c d) (hN : N ≤ 1000) (hc : Cok N c d) (hwt : waitP d ≤ 100000) (ho : d.off = false) (ha : ¬ 0 < d.arm) :
    Calls Try.prog 18 #[.pointer (some ⟨gc, 0, none⟩)] w fun e w' => e = .returned (.int .i64 0) ∧ CS w0 w' gc g N (flushC c N) (flushD c d N) := by
  obtain ⟨mb, ns, S, hk, hB, hS⟩ := h
  refine (Flush_calls w hk hN hc.dk hwt (CS.h512 hk hc) ho ha).mono ?_
  rintro e w' ⟨rfl, ns', hto⟩
  exact ⟨rfl, CS.to hB hS hto⟩
theorem Full2 (w : World) (b : UInt8) : Calls Try.prog 17 #[.slice (some ⟨w.heap.size, 0, none⟩) 2 2] (w.alloc (.cells #[.int .u8 (b.toNat : Int), .int .u8 1] 5)) (fun e w' => ∃ A c, e = .returned (.slice A 512 c) ∧ Own8 w' (.slice A 512 c) (fullP [b, 1]) ∧ Below w.heap.size w w') := by
  refine (Full_calls _ _ [b, 1] (rd_new w (bvs [b, 1]) 5 2 rfl) (by simp)).mono ?_
  rintro e w' ⟨r, rfl, ho, hB, _⟩
  obtain ⟨A, c, e⟩ := ho.shape
  rw [fullP_len] at e
  subst e
  exact ⟨A, c, rfl, ho, ((Below.refl w.heap.size w).alloc (Nat.le_refl _) _).trans (hB.mono (by simp))⟩
theorem Full0 (w : World) : Calls Try.prog 17 #[.slice none 0 0] w (fun e w' => ∃ A c, e = .returned (.slice A 512 c) ∧ Own8 w' (.slice A 512 c) zblk ∧ Below w.heap.size w w') := by
  refine (Full_calls w (.slice none 0 0) [] (Rd.nil _ _ _) (by simp)).mono ?_
  rintro e w' ⟨r, rfl, ho, hB, _⟩
  obtain ⟨A, c, e⟩ := ho.shape
  rw [fullP_nil] at ho
  rw [fullP_len] at e
  subst e
  exact ⟨A, c, rfl, ho, hB⟩
def mK (fl : Int) (k : Nat) : Nat := if 0 ≤ fl ∧ fl < (k : Int) then fl.toNat + 1 else 0
theorem mK_le (fl : Int) (k : Nat) : mK fl k ≤ k := by unfold mK; split <;> omega
theorem mK_same {fl : Int} {k : Nat} (h : fl ≠ (k : Int)) : mK fl (k + 1) = mK fl k := by
  unfold mK
  by_cases e : 0 ≤ fl ∧ fl < (k : Int)
  · rw [if_pos e, if_pos (by omega)]
  · rw [if_neg e, if_neg (by omega)]
theorem mK_at (k : Nat) : mK (k : Int) k = 0 ∧ mK (k : Int) (k + 1) = k + 1 := by
  unfold mK
  rw [if_neg (by omega), if_pos (by omega)]
  exact ⟨rfl, by omega⟩
set_option maxRecDepth 100000 in
set_option maxHeartbeats 16000000 in
theorem CacheLoses_calls (w : World) {x0 : Value} {bs : List UInt8} {fl : Int} (xx0 : Rd w x0 (bvs bs)) (ll0 : bs.length ≤ 9223372036854775807) (ww1 : (Lit.int .i64 fl).wf = true) :
    Calls Try.prog 5 #[x0, .int .i64 fl] w fun e w' => e = .returned (.bool true) ∧ Below w.heap.size w w' := by
  obtain ⟨n1, n2⟩ := wf64K ww1
  have hx0 := Lib.hid xx0
  obtain ⟨A0, c0, rfl⟩ := xx0.shape8
  clear xx0 ww1
  by_cases hg1 : 20 < bs.length
  · clear hx0
    generalize bs.length = n at *
    go_enter Try.func5, Try.ntmps5
    go_wp2_with fail
    refine (known_calls w).mono ?_
    rintro e w1 ⟨rfl, hB1⟩
    go_wp2
    go_ret
    exact ⟨rfl, hB1⟩
  have hL : bs.length ≤ 20 := by omega
  have hat : Hid (∀ (W : World) (hB : Below w.heap.size w W) k (hk : k < bs.length), ∃ ad, A0 = some ad ∧ W.cell? (ad.add k) = some (.int .u8 (bs[k].toNat : Int))) := fun W hB k hk => (hx0.out.below hB).at8a hk
  clear hx0 hg1
  go_enter Try.func5, Try.ntmps5
  go_wp2_with fail
  refine (known_calls w).mono ?_
  rintro e w1 ⟨rfl, hB1⟩
  go_wp2_with fail
  refine (NewB_calls w1 20 (by omega) (by omega)).mono ?_
  rintro e w2 ⟨g, S, rfl, hdk, hb2, hS⟩
  have hN := Lib.hid (NewC_calls (N := 20) w w2 hdk (hB1.trans (hb2.mono hB1.size)) (fun j hj => Nat.le_trans hB1.size (hS j hj)) 30 (by omega) (by omega))
  clear hdk hb2 hS
  go_wp2_with fail
  refine hN.out.mono ?_
  rintro e w3 ⟨gc, rfl, hc0⟩
  have hc0 : CS w w3 gc g 20 (newC 30) (dN 20) := hc0
  have hc0 := Lib.hid hc0
  have hl0 : Hid (LInv bs 0 (mK fl 0) (newC 30) (dN 20)) := by
    have : mK fl 0 = 0 := by unfold mK; rw [if_neg (by omega)]
    rw [this]
    exact LInv.start bs
  clear hN hB1
  obtain ⟨L, hLL⟩ : ∃ L, Hid (L = bs.length) := ⟨_, rfl⟩
  rw [← hLL.out] at hL ⊢
  go_wp2
  go_loopw [9] (fun iv wr => ∃ (k : Nat) (c : Ck) (d : Dk), k ≤ L ∧ iv = .int .i64 (k : Int) ∧ Hid (CS w wr gc g 20 c d) ∧ Hid (LInv bs k (mK fl k) c d)) (fun iv _ => L - (RowKit.intOf iv).toNat)
  case atStart => exact ⟨0, _, _, Nat.zero_le _, rfl, hc0, hl0⟩
  case round =>
    obtain ⟨k, c, d, hk, rfl, hcs, hli⟩ := hrel
    clear hc0 hl0
    by_cases hlt : k < L
    · have hkL : k < bs.length := by rw [← hLL.out]; exact hlt
      obtain ⟨ad, rfl, hy⟩ := hat.out wr hcs.out.bel k hkL
      obtain ⟨p1, p2, p3⟩ := hli.out.put (by omega) (mK_le fl k)
      have hFB : Hid (fullP [bs[k], 1] = FB bs k) := by
        show _ = _
        unfold FB
        rw [List.getD_eq_getElem?_getD, List.getElem?_eq_getElem hkL]
        rfl
      have hF := Lib.hid (Full2 wr bs[k])
      have p3 := Lib.hid p3
      generalize bs[k] = yb at *
      generalize yb.toNat = yn at *
      go_wp2_with fail
      refine hF.out.mono ?_
      rintro e w4 ⟨fA, fc, rfl, hfo, hfb⟩
      rw [hFB.out] at hfo
      have hP := CS.put (hcs.out.go hfb) (by omega) hli.out.ok (k : Int) (.slice fA 512 fc) (FB bs k) (RdT.of_own (F := fun _ => True) (t := 5) (base := 0) hfo (fun _ _ => trivial))
      rw [p1, p2] at hP
      generalize putP c d 20 (k : Int) (FB bs k) = o at *
      have hP := Lib.hid hP
      clear hfo hfb hcs hli hF hy p1 p2
      go_wp2_with fail
      refine hP.out.mono ?_
      rintro e w5 ⟨rfl, hc5, _⟩
      have hc5 := Lib.hid hc5
      clear hP
      by_cases he : fl = (k : Int)
      · subst he
        obtain ⟨m1, m2⟩ := mK_at k
        have p3 := p3.out
        rw [m1] at p3
        have hFl := Lib.hid (CS.flush hc5.out (by omega) p3.ok (by rw [p3.w0]; omega) p3.of (by rw [p3.ar]; omega))
        have hn : Hid (LInv bs (k + 1) (mK (k : Int) (k + 1)) (flushC o.2.1 20) (flushD o.2.1 d 20)) := by
          show LInv _ _ _ _ _
          rw [m2]
          exact p3.flush (by omega)
        clear m1 m2 p3 hc5
        go_wp2_with fail
        refine hFl.out.mono ?_
        rintro e w6 ⟨rfl, hc6⟩
        have hc6 := Lib.hid hc6
        clear hFl
        go_wp2
        go_roundw
        case rel => exact ⟨k + 1, _, _, by omega, by go_num, hc6, hn⟩
        case measure => simp [RowKit.intOf]; omega
      · have hn : Hid (LInv bs (k + 1) (mK fl (k + 1)) o.2.1 d) := by
          show LInv _ _ _ _ _
          rw [mK_same he]
          exact p3.out
        have heb : (((k : Int)) == fl) = false := by rw [beq_eq_false_iff_ne]; exact fun e => he e.symm
        clear p3 he
        go_wp2
        go_roundw
        case rel => exact ⟨k + 1, _, _, by omega, by go_num, hc5, hn⟩
        case measure => simp [RowKit.intOf]; omega
    · obtain rfl : k = L := by omega
      have hD := Lib.hid (CS.drop hcs.out)
      go_wp2_with fail
      refine hD.out.mono ?_
      rintro e w4 ⟨rfl, hc4⟩
      have hsz := hli.out.sz
      rw [hsz] at hc4
      have hH := Lib.hid (CS.held hc4 (by omega))
      have hg0 : Hid (GInv 0 (⟨30, [], c.hits, c.misses, c.evs⟩ : Ck)) := ⟨rfl, rfl, fun h hh => absurd hh (by simp)⟩
      clear hD hsz hcs
      generalize c.hits = ch at *
      generalize c.misses = cm at *
      generalize c.evs = ce at *
      go_wp2_with fail
      refine hH.out.mono ?_
      rintro e w5 ⟨⟨hv, rfl, hrd, _⟩, hc5⟩
      have hrd : Rd w5 hv [] := hrd
      obtain ⟨hA, hcc, rfl, _, _⟩ := hrd
      have hDi := Lib.hid (CS.dirty hc5 (by omega))
      clear hc4 hc5 hH
      go_wp2_with fail
      refine hDi.out.mono ?_
      rintro e w6 ⟨⟨hv, rfl, hrd, _⟩, hc6⟩
      have hrd : Rd w6 hv [] := hrd
      obtain ⟨hA2, hcc2, rfl, _, _⟩ := hrd
      have hc6 := Lib.hid hc6
      clear hDi
      go_wp2
      go_loopw [10, 11, 12, 13] (fun iv _ _ _ wr => ∃ (j : Nat) (c : Ck), j ≤ k ∧ iv = .int .i64 (j : Int) ∧ Hid (CS w wr gc g 20 c d) ∧ Hid (GInv j c)) (fun iv _ _ _ _ => k - (RowKit.intOf iv).toNat)
      case atStart => exact ⟨0, _, Nat.zero_le _, rfl, hc6, hg0⟩
      case round =>
        obtain ⟨j, c, hj, rfl, hcs, hgi⟩ := hrel
        clear hc6 hg0
        by_cases hlt2 : j < k
        · obtain ⟨g1, g2, g3, hx, hr, hl, hxb⟩ := hgi.out.get hli.out (show j < 20 by omega)
          have hG := CS.get hcs.out (by omega) ⟨hli.out.dko, hgi.out.b5⟩ (j : Int) (fun x hx => by rw [g3.b5 x hx]; omega)
          rw [g2] at hG
          generalize getP c d 20 (j : Int) = o at *
          have hG := Lib.hid hG
          have g3 := Lib.hid g3
          have hjL : j < bs.length := by rw [← hLL.out]; omega
          obtain ⟨ad, rfl, hy⟩ := hat.out wr hcs.out.bel j hjL
          have hatj : Hid (∀ (W : World) (hB : Below w.heap.size w W), W.cell? (ad.add j) = some (.int .u8 (bs[j].toNat : Int))) := fun W hB => by
            obtain ⟨ad', e, h⟩ := hat.out W hB j hjL
            injection e with e
            rw [e]
            exact h
          have hFB : Hid (fullP [bs[j], 1] = FB bs j) := by
            show _ = _
            unfold FB
            rw [List.getD_eq_getElem?_getD, List.getElem?_eq_getElem hjL]
            rfl
          have hFF := Lib.hid (fun W => Full2 W bs[j])
          generalize bs[j] = yb at *
          generalize yb.toNat = yn at *
          clear hcs hgi hy
          go_wp2_with fail
          refine hG.out.mono ?_
          rintro e w7 ⟨hc7, hrr, _⟩
          obtain ⟨hx', hr', v, hl', rfl, hov⟩ := hrr.ok g1
          have hxx : hx' = hx := by rw [hl] at hl'; injection hl' with h1 _; exact h1.symm
          subst hxx
          rw [hxb] at hov
          obtain ⟨vA, vc, rfl⟩ := hov.shape
          have hln : (if j < mK fl k then FB bs j else zblk).length = 512 := by
            split
            · exact FB_len _ _
            · exact zblk_len
          rw [hln] at hov ⊢
          clear hln
          have hc7 := Lib.hid hc7
          clear hrr hl hl' hxb hG g1
          by_cases hm : j < mK fl k
          · rw [if_pos hm] at hov
            have hfl : 0 ≤ fl ∧ fl < (k : Int) ∧ (j : Int) ≤ fl := by
              unfold mK at hm
              split at hm <;> omega
            obtain ⟨q1, q2, q3⟩ := hfl
            have hov := Lib.hid hov
            clear hm
            go_wp2_with fail
            refine (Full0 w7).mono ?_
            rintro e w8 ⟨zA, zc, rfl, hz, hzB⟩
            have hc8 := Lib.hid (hc7.out.go hzB)
            have hrx8 := Lib.hid ((Rd.of_own hov.out).below hzB)
            have hyc := hatj.out w8 hc8.out.bel
            clear hz hzB hc7 hov
            have hF8 := Lib.hid (hFF.out w8)
            go_wp2_with fail
            refine hF8.out.mono ?_
            rintro e w9 ⟨wA, wc, rfl, hw, hwB⟩
            rw [hFB.out] at hw
            have hc9 := Lib.hid (hc8.out.go hwB)
            have s1 := run_str (P := Try.prog) w9 31 9 5 _ _ Try.underlying31 Try.underlying5 Try.underlying9 (hrx8.out.below hwB)
            have s2 := run_str (P := Try.prog) w9 31 9 5 _ _ Try.underlying31 Try.underlying5 Try.underlying9 (Rd.of_own hw)
            unfold str at s1 s2
            clear hw hwB hrx8 hc8 hyc hF8 hatj hFF
            generalize FB bs j = P at *
            go_wp2
            go_roundw
            case rel => exact ⟨j + 1, _, by omega, by go_num, hc9, g3⟩
            case measure => simp [RowKit.intOf]; omega
          · rw [if_neg hm] at hov
            have hov := Lib.hid hov
            have hfl : fl < 0 ∨ (0 ≤ fl ∧ (k : Int) ≤ fl) ∨ (0 ≤ fl ∧ fl < (k : Int) ∧ fl < (j : Int)) := by
              unfold mK at hm
              split at hm <;> omega
            clear hm
            rcases hfl with q1 | ⟨q1, q2⟩ | ⟨q1, q2, q3⟩
            · go_wp2_with fail
              refine (Full0 w7).mono ?_
              rintro e w8 ⟨zA, zc, rfl, hz, hzB⟩
              have hc8 := Lib.hid (hc7.out.go hzB)
              have s1 := run_str (P := Try.prog) w8 31 9 5 _ _ Try.underlying31 Try.underlying5 Try.underlying9 ((Rd.of_own hov.out).below hzB)
              have s2 := run_str (P := Try.prog) w8 31 9 5 _ _ Try.underlying31 Try.underlying5 Try.underlying9 (Rd.of_own hz)
              unfold str at s1 s2
              clear hz hzB hc7 hov hatj hFF
              generalize zblk = P at *
              go_wp2
              go_roundw
              case rel => exact ⟨j + 1, _, by omega, by go_num, hc8, g3⟩
              case measure => simp [RowKit.intOf]; omega
            · go_wp2_with fail
              refine (Full0 w7).mono ?_
              rintro e w8 ⟨zA, zc, rfl, hz, hzB⟩
              have hc8 := Lib.hid (hc7.out.go hzB)
              have s1 := run_str (P := Try.prog) w8 31 9 5 _ _ Try.underlying31 Try.underlying5 Try.underlying9 ((Rd.of_own hov.out).below hzB)
              have s2 := run_str (P := Try.prog) w8 31 9 5 _ _ Try.underlying31 Try.underlying5 Try.underlying9 (Rd.of_own hz)
              unfold str at s1 s2
              clear hz hzB hc7 hov hatj hFF
              generalize zblk = P at *
              go_wp2
              go_roundw
              case rel => exact ⟨j + 1, _, by omega, by go_num, hc8, g3⟩
              case measure => simp [RowKit.intOf]; omega
            · go_wp2_with fail
              refine (Full0 w7).mono ?_
              rintro e w8 ⟨zA, zc, rfl, hz, hzB⟩
              have hc8 := Lib.hid (hc7.out.go hzB)
              have s1 := run_str (P := Try.prog) w8 31 9 5 _ _ Try.underlying31 Try.underlying5 Try.underlying9 ((Rd.of_own hov.out).below hzB)
              have s2 := run_str (P := Try.prog) w8 31 9 5 _ _ Try.underlying31 Try.underlying5 Try.underlying9 (Rd.of_own hz)
              unfold str at s1 s2
              clear hz hzB hc7 hov hatj hFF
              generalize zblk = P at *
              go_wp2
              go_roundw
              case rel => exact ⟨j + 1, _, by omega, by go_num, hc8, g3⟩
              case measure => simp [RowKit.intOf]; omega
        · obtain rfl : j = k := by omega
          have hBe := Lib.hid hcs.out.bel
          go_wp2
          go_ret
          exact ⟨rfl, hBe.out⟩
end Go.Proofs.Ytfapehgjiglflaa
