/- The log's laws: does a log tell just these blocks? -/
import Derived.Test.YtlfbfmeppcicnaaWlc
namespace Go.Proofs.Ytlfbfmeppcicnaa
open Go.RowKit
/-- All data blocks. -/
def datL (N : Nat) (x : Lk) (V : Nat → List UInt8) : List (List UInt8) := (List.range (N - 65)).map (datP x V)
theorem datL_len (N : Nat) (x : Lk) (V : Nat → List UInt8) : (datL N x V).length = N - 65 := by simp [datL]
theorem datL_at {N : Nat} {x : Lk} {V : Nat → List UInt8} {n : Nat} (h : n < N - 65) : (datL N x V)[n]? = some (datP x V n) := by
  unfold datL
  rw [List.getElem?_map, List.getElem?_range h]
  rfl
theorem Rd.strAt {w : World} {A : Option Addr} {n c : Nat} {us : List (List UInt8)} (h : Rd w (.slice A n c) (us.map str)) {k : Nat} (hk : k < us.length) : ∃ ad, A = some ad ∧ w.cell? (ad.add k) = some (str us[k]) := by
  obtain ⟨ad, c', e, hc⟩ := h.cell (j := k) (by simpa using hk)
  injection e with e1 _ _
  exact ⟨ad, e1, by rw [hc]; simp⟩
theorem below_drewN {B : Nat} {a w : World} (h : Below B a w) (n : Nat) : Below B a (w.drewN n) := ⟨h.os, h.tape, h.output, h.size, h.block⟩
theorem str_beq (a b : List UInt8) : ((⟨a.toArray⟩ : ByteArray).toList == (⟨b.toArray⟩ : ByteArray).toList) = decide (a = b) := by
  rw [ByteArray.toList_mk, ByteArray.toList_mk]
  by_cases h : a = b
  · subst h; simp
  · rw [decide_eq_false h]; exact beq_eq_false_iff_ne.2 h
set_option maxRecDepth 100000 in
set_option maxHeartbeats 16000000 in
theorem all_callsL {W0 w : World} {gl g N : Nat} {x : Lk} {V : Nat → List UInt8} {X : Nat → Prop} (h : LC W0 w gl g N x V X) (hN : 65 < N ∧ N ≤ 16000) (v : Value) (us : List (List UInt8)) (hv : Rd w v (us.map str)) (hl : us.length ≤ 1000000) :
    Calls Try.prog 26 #[.pointer (some ⟨gl, 0, none⟩), v] w fun e w' => e = .returned (.bool (decide (us = datL N x V))) ∧ Below w.heap.size w w' := by
  obtain ⟨vA, vc, rfl⟩ : ∃ A c, v = .slice A us.length c := by
    obtain ⟨A, c, rfl, _⟩ := hv
    exact ⟨A, c, by simp⟩
  obtain ⟨b, hb⟩ : ∃ b, Hid (decide (us = datL N x V) = b) := ⟨_, Lib.hid rfl⟩
  rw [hb.out]
  have hno : Hid (∀ n, n < us.length → n < N - 65 → ∀ hn : n < us.length, us[n]'hn ≠ datP x V n → b = false) := fun n h1 h2 hn hne => by
    rw [← hb.out, decide_eq_false_iff_not]
    intro e
    apply hne
    have h3 := datL_at (N := N) (x := x) (V := V) h2
    rw [← e, List.getElem?_eq_getElem hn] at h3
    exact Option.some.inj h3
  have hlen : Hid (us.length ≠ N - 65 → b = false) := fun hne => by
    rw [← hb.out, decide_eq_false_iff_not]
    intro e
    apply hne
    rw [e, datL_len]
  have hyes : Hid (us.length = N - 65 → (∀ n, n < us.length → us[n]? = some (datP x V n)) → b = true) := fun h1 h2 => by
    rw [← hb.out, decide_eq_true_iff]
    apply List.ext_getElem?
    intro i
    rcases Nat.lt_or_ge i us.length with hi | hi
    · rw [h2 i hi, datL_at (by omega)]
    · rw [List.getElem?_eq_none hi, List.getElem?_eq_none (by rw [datL_len]; omega)]
  have hh := Lib.hid h
  have hvh := Lib.hid hv
  have hNh := Lib.hid hN
  obtain ⟨L, hL⟩ : ∃ L, Hid (us.length = L) := ⟨_, Lib.hid rfl⟩
  rw [hL.out] at hvh hl hlen ⊢
  obtain ⟨B, hB⟩ : ∃ B, Hid (N - 65 = B) := ⟨_, Lib.hid rfl⟩
  have hB16 : B ≤ 16000 := by rw [← hB.out]; omega
  clear h hv hb hN
  go_enter Try.func26, Try.ntmps26
  go_wp2
  go_loopw [5] (fun iv wr => ∃ i : Nat, i ≤ L ∧ i ≤ B ∧ iv = .int .i64 (i : Int) ∧ Hid (Below w.heap.size w wr) ∧ Hid (∀ n, n < i → us[n]? = some (datP x V n))) (fun iv _ => L - (RowKit.intOf iv).toNat)
  case atStart => exact ⟨0, Nat.zero_le _, Nat.zero_le _, rfl, Below.refl _ _, fun n hn => by omega⟩
  case round =>
    obtain ⟨i, hi, hiB, rfl, hBe, hok⟩ := hrel
    have hc := hh.out.below hBe.out
    by_cases hiL : i < L
    · have hil : i < us.length := by rw [hL.out]; exact hiL
      have hR := cRead hc hNh.out (i : Int)
      obtain ⟨ad, rfl, hcl⟩ := (hvh.out.below hBe.out).strAt hil
      by_cases hib : i < B
      · rw [if_neg (by rw [hB.out]; omega), Int.toNat_natCast, hc.la.val (by rw [hB.out]; exact hib)] at hR
        have h5 := Lib.hid (hc.la.d5 (n := i) (by rw [hB.out]; exact hib))
        have hR := Lib.hid hR
        have hcl2 := Lib.hid (fun W (hW : Below wr.heap.size wr W) => (((hvh.out.below hBe.out).below hW).strAt hil))
        have hnext : Hid (us[i]'hil = datP x V i → ∀ n, n < i + 1 → us[n]? = some (datP x V n)) := fun he n hn => by
          by_cases e : n = i
          · subst e
            rw [List.getElem?_eq_getElem hil, he]
          · exact hok.out n (by omega)
        have hbad : Hid (us[i]'hil ≠ datP x V i → b = false) := fun he => hno.out i hil (by rw [hB.out]; exact hib) hil he
        clear hc hcl
        go_wp2_with fail
        refine hR.out.mono ?_
        intro e w2 hr
        obtain ⟨bx, cx, rfl, hx, hxb, _, _⟩ := hr.ok rfl h5.out
        have s1 := fun n => run_str (P := Try.prog) (w2.drewN n) 32 9 5 _ _ Try.underlying32 Try.underlying5 Try.underlying9 ((Rd.of_own hx).drewN n)
        obtain ⟨ad2, e2, z2⟩ := hcl2.out w2 hxb
        cases e2
        have hB2 : Hid (Below w.heap.size w w2) := hBe.out.trans (hxb.mono hBe.out.size)
        have hbe := str_beq (datP x V i) (us[i]'hil)
        unfold str at s1 z2
        obtain ⟨us_i, hui⟩ : ∃ u, Hid (us[i]'hil = u) := ⟨_, Lib.hid rfl⟩
        rw [hui.out] at z2 hbe hnext hbad
        have hiL' : (i : Int) < (L : Int) := by omega
        by_cases heq : datP x V i = us_i
        · have hn1 := Lib.hid (hnext.out heq.symm)
          rw [decide_eq_true heq] at hbe
          clear hr hR hx hxb hnext hbad heq hui h5 hcl2
          generalize (⟨(datP x V i).toArray⟩ : ByteArray) = p at *
          generalize (⟨us_i.toArray⟩ : ByteArray) = p2 at *
          go_wp2_with fail
          go_quiet (fail)
          clear z2 s1
          go_wp2
          go_roundw
          case rel => exact ⟨i + 1, by omega, by omega, by go_num, below_drewN hB2.out _, hn1⟩
          case measure => simp [RowKit.intOf]; omega
        · have hn1 : Hid (b = false) := hbad.out fun e => heq e.symm
          rw [decide_eq_false heq] at hbe
          clear hr hR hx hxb hnext hbad heq hui h5 hcl2
          generalize (⟨(datP x V i).toArray⟩ : ByteArray) = p at *
          generalize (⟨us_i.toArray⟩ : ByteArray) = p2 at *
          go_wp2_with fail
          go_quiet (fail)
          clear z2 s1
          go_wp2
          go_ret
          rw [hn1.out]
          exact ⟨rfl, below_drewN hB2.out _⟩
      · rw [if_pos (by rw [hB.out]; omega)] at hR
        have hn1 : Hid (b = false) := hlen.out (by rw [hB.out]; omega)
        have hR := Lib.hid hR
        clear hc hcl
        go_wp2_with fail
        refine hR.out.mono ?_
        intro e w2 hr
        obtain ⟨rfl, rfl⟩ := hr.bad (by decide)
        clear hr hR
        go_wp2_with fail
        go_quiet (fail)
        go_wp2
        go_ret
        rw [hn1.out]
        exact ⟨rfl, below_drewN hBe.out _⟩
    · obtain rfl : i = L := by omega
      have hR := cRead hc hNh.out (i : Int)
      have hBl := Lib.hid (fun W (hW : Below wr.heap.size wr W) => cBlocks (hc.below hW) hNh.out)
      by_cases hib : i < B
      · rw [if_neg (by rw [hB.out]; omega), Int.toNat_natCast] at hR
        have hn1 : Hid (b = false) := hlen.out (by rw [hB.out]; omega)
        have h5 := Lib.hid (hc.la.d5 (n := i) (by rw [hB.out]; exact hib))
        rw [hc.la.val (by rw [hB.out]; exact hib)] at hR
        have hR := Lib.hid hR
        clear hc
        go_wp2_with fail
        refine hR.out.mono ?_
        intro e w2 hr
        obtain ⟨bx, cx, rfl, hx, hxb, _, _⟩ := hr.ok rfl h5.out
        have hB2 : Hid (Below w.heap.size w w2) := hBe.out.trans (hxb.mono hBe.out.size)
        have hBl2 := hBl.out w2 hxb
        rw [hB.out] at hBl2
        have hne : ((B : Int) == (i : Int)) = false := by rw [beq_eq_false_iff_ne]; omega
        clear hr hR hx hxb
        go_wp2_with fail
        refine hBl2.mono ?_
        rintro e w3 ⟨rfl, rfl⟩
        clear hBl2
        go_wp2
        go_ret
        rw [hn1.out]
        exact ⟨rfl, hB2.out⟩
      · obtain rfl : i = B := by omega
        rw [if_pos (by rw [hB.out]; omega)] at hR
        have hn1 : Hid (b = true) := hyes.out (by rw [hL.out, hB.out]) fun n hn => hok.out n (by rw [← hL.out]; exact hn)
        have hR := Lib.hid hR
        clear hc
        go_wp2_with fail
        refine hR.out.mono ?_
        intro e w2 hr
        obtain ⟨rfl, rfl⟩ := hr.bad (by decide)
        have hBl2 := hBl.out wr (Below.refl _ _)
        rw [hB.out] at hBl2
        clear hr hR
        go_wp2_with fail
        refine hBl2.mono ?_
        rintro e w3 ⟨rfl, rfl⟩
        clear hBl2
        go_wp2
        go_ret
        rw [hn1.out]
        exact ⟨by simp, hBe.out⟩
end Go.Proofs.Ytlfbfmeppcicnaa
