/- The log's laws: helpers. The log's laws: does a log tell just these blocks? The log's laws: a caller's row of texts that grows. -/
import Derived.Test.YtlfbfmeppcicnaaWlb
namespace Go.Proofs.Ytlfbfmeppcicnaa
open Go.RowKit
theorem ofInt64_emod (n : Int) : ((BitVec.ofInt 64 n).toNat : Int) = n % 18446744073709551616 := by
  rw [BitVec.toNat_ofInt]
  omega
theorem and_mask (n : Int) (j : Nat) (hj : j ≤ 32) : bits .and .i64 n ((2 ^ j - 1 : Nat) : Int) = n % ((2 ^ j : Nat) : Int) := by
  have hm : 2 ^ j ≤ 4294967296 := Nat.pow_le_pow_right (by omega) hj
  have hp : 0 < 2 ^ j := Nat.two_pow_pos j
  show IntKind.i64.wrap ((BitVec.ofInt 64 n &&& BitVec.ofInt 64 ((2 ^ j - 1 : Nat) : Int)).toNat : Int) = _
  rw [BitVec.toNat_and, ofInt64_nat _ (by omega), Nat.and_two_pow_sub_one_eq_mod]
  have h1 := ofInt64_emod n
  have h2 : (((BitVec.ofInt 64 n).toNat % 2 ^ j : Nat) : Int) = n % ((2 ^ j : Nat) : Int) := by
    rw [Int.natCast_emod, h1]
    exact Int.emod_emod_of_dvd n (by
      have : (18446744073709551616 : Int) = ((2 ^ 64 : Nat) : Int) := by decide
      rw [this]
      exact Int.natCast_dvd_natCast.2 (Nat.pow_dvd_pow 2 (by omega)))
  rw [h2, IntKind.wrap_i64]
  have h3 : n % ((2 ^ j : Nat) : Int) < ((2 ^ j : Nat) : Int) := Int.emod_lt_of_pos _ (by omega)
  have h4 : 0 ≤ n % ((2 ^ j : Nat) : Int) := Int.emod_nonneg _ (by omega)
  omega
theorem wf64K {n : Int} (h : (Lit.int .i64 n).wf = true) : -9223372036854775808 ≤ n ∧ n ≤ 9223372036854775807 := by
  simp [Lit.wf, IntKind.min, IntKind.max, IntKind.signed, IntKind.bits] at h
  omega
theorem Rd.intAtK {w : World} {A : Option Addr} {n c : Nat} {us : List Int} (h : Rd w (.slice A n c) (us.map (Value.int .i64))) {k : Nat} (hk : k < us.length) : ∃ ad, A = some ad ∧ w.cell? (ad.add k) = some (.int .i64 us[k]) := by
  obtain ⟨ad, c', e, hc⟩ := h.cell (j := k) (by simpa using hk)
  injection e with e1 _ _
  exact ⟨ad, e1, by rw [hc]; simp⟩
theorem fullP_nil : fullP [] = zblk := by
  unfold fullP zblk
  rw [List.map_congr_left (g := fun _ => (0 : UInt8)) (fun i _ => by simp), List.map_const', List.length_range]
theorem Full0 (w : World) : Calls Try.prog 19 #[.slice none 0 0] w (fun e w' => ∃ A c, e = .returned (.slice A 512 c) ∧ Own8 w' (.slice A 512 c) zblk ∧ Below w.heap.size w w') := by
  refine (Full_calls w (.slice none 0 0) [] (Rd.nil _ _ _) (by simp)).mono ?_
  rintro e w' ⟨r, rfl, ho, hB, _⟩
  obtain ⟨A, c, e⟩ := ho.shape
  rw [fullP_nil] at ho
  rw [fullP_len] at e
  subst e
  exact ⟨A, c, rfl, ho, hB⟩
theorem wf8B {n : Int} (h : (Lit.int .u8 n).wf = true) : ∃ b : UInt8, n = (b.toNat : Int) := by
  simp [Lit.wf, IntKind.min, IntKind.max, IntKind.signed, IntKind.bits] at h
  refine ⟨UInt8.ofNat n.toNat, ?_⟩
  have : (UInt8.ofNat n.toNat).toNat = n.toNat % 256 := by simp
  rw [this]
  omega
theorem FullTwo (w : World) (a b : UInt8) : Calls Try.prog 19 #[.slice (some ⟨w.heap.size, 0, none⟩) 2 2] (w.alloc (.cells #[.int .u8 (a.toNat : Int), .int .u8 (b.toNat : Int)] 5)) (fun e w' => ∃ A c, e = .returned (.slice A 512 c) ∧ Own8 w' (.slice A 512 c) (fullP [a, b]) ∧ Below w.heap.size w w') := by
  refine (FullB _ [a, b] _ (rd_new w (bvs [a, b]) 5 2 rfl) (by simp)).mono ?_
  rintro e w' ⟨A, c, rfl, ho, hB⟩
  exact ⟨A, c, rfl, ho, ((Below.refl w.heap.size w).alloc (Nat.le_refl _) _).trans (hB.mono (by simp))⟩
theorem FullI (w : World) (b : UInt8) : Calls Try.prog 19 #[.slice (some ⟨w.heap.size, 0, none⟩) 1 1] (w.alloc (.cells #[.int .u8 (b.toNat : Int)] 5)) (fun e w' => ∃ A c, e = .returned (.slice A 512 c) ∧ Own8 w' (.slice A 512 c) (fullP [b]) ∧ Below w.heap.size w w') := FullM w b (0, 0)
theorem u8_nat {i : Nat} (h : i < 256) : ((UInt8.ofNat i).toNat : Int) = i := by
  rw [UInt8.toNat_ofNat']
  omega
theorem wrap_u8 {i : Nat} (h : i < 256) : IntKind.u8.wrap (i : Int) = i := by
  show ((i : Int) % 256) = i
  omega
/-- The transaction has written just the blocks below i. -/
def TD (i : Nat) (t : Tk) : Prop := t.ov = false ∧ ∀ k, (t.m k).isSome = decide (k < i)
theorem TD.len {i : Nat} {t : Tk} (h : TD i t) (hi : i ≤ 70) : (ksW 70 t.m).length = i := by
  unfold ksW
  rw [show (fun k => (t.m k).isSome) = fun k => decide (k < i) from funext h.2]
  have : (List.range 70).filter (fun k => decide (k < i)) = List.range i := by
    have h2 := List.range_add (n := i) (m := 70 - i)
    rw [show i + (70 - i) = 70 by omega] at h2
    rw [h2, List.filter_append, List.filter_eq_self.2 (by simp), List.filter_eq_nil_iff.2 (by simp), List.append_nil]
  rw [this, List.length_range]
theorem TD.new : TD 0 ⟨fun _ => none, false⟩ := ⟨rfl, fun k => by simp⟩
theorem TD.put {i : Nat} {t : Tk} (h : TD i t) (hi : i < 63) {b : List UInt8} (hb : b.length = 512) : (twriteP 70 t (i : Int) b).1 = 0 ∧ TD (i + 1) (twriteP 70 t (i : Int) b).2 := by
  have e : twriteE 70 t (i : Int) b = 0 := by
    unfold twriteE
    rw [if_neg (by omega), if_neg (by simp [h.1]), if_neg]
    rintro ⟨_, h2⟩
    rw [h.len (by omega)] at h2
    omega
  unfold twriteP
  rw [e]
  refine ⟨rfl, h.1, fun k => ?_⟩
  show (if k = Int.toNat (i : Int) then some b else t.m k).isSome = _
  rw [Int.toNat_natCast]
  by_cases e2 : k = i
  · subst e2; rw [if_pos rfl]; simp
  · rw [if_neg e2, h.2]
    congr 1
    simp only [eq_iff_iff]
    omega
theorem TD.again {i : Nat} {t : Tk} (h : TD 63 t) (hi : i < 64) {b : List UInt8} (hb : b.length = 512) : (twriteP 70 t (i : Int) b).1 = (if i < 63 then 0 else 7) ∧ TD 63 (twriteP 70 t (i : Int) b).2 := by
  have hl := h.len (by omega)
  have hfi : fI t.m (i : Int) = t.m i := by unfold fI; rw [if_pos (by omega), Int.toNat_natCast]
  have hi2 := h.2 i
  have e : twriteE 70 t (i : Int) b = if i < 63 then 0 else 7 := by
    unfold twriteE
    rw [if_neg (by omega), if_neg (by simp [h.1]), hl, hfi]
    by_cases h63 : i < 63
    · rw [if_pos h63, if_neg]
      rintro ⟨h2, _⟩
      rw [h2] at hi2
      simp [h63] at hi2
    · have hnone : t.m i = none := by
        cases hm : t.m i with
        | none => rfl
        | some x => rw [hm] at hi2; simp at hi2; omega
      rw [if_neg h63, if_pos ⟨hnone, rfl⟩]
  unfold twriteP
  rw [e]
  refine ⟨rfl, ?_⟩
  by_cases h63 : i < 63
  · rw [if_pos h63, if_pos rfl]
    refine ⟨h.1, fun k => ?_⟩
    show (if k = Int.toNat (i : Int) then some b else t.m k).isSome = _
    rw [Int.toNat_natCast]
    by_cases e2 : k = i
    · subst e2; rw [if_pos rfl]; simp [h63]
    · rw [if_neg e2, h.2]
  · rw [if_neg h63, if_neg (by decide)]
    exact h
end Go.Proofs.Ytlfbfmeppcicnaa
namespace Go.Proofs.Ytlfbfmeppcicnaa
open Go.RowKit
/-- All data blocks. -/
def datL (N : Nat) (x : Lk) (V : Nat → List UInt8) : List (List UInt8) := (List.range (N - 65)).map (datP x V)
theorem datL_len (N : Nat) (x : Lk) (V : Nat → List UInt8) : (datL N x V).length = N - 65 := by simp [datL]
theorem datL_at {N : Nat} {x : Lk} {V : Nat → List UInt8} {n : Nat} (h : n < N - 65) : (datL N x V)[n]? = some (datP x V n) := by
  unfold datL
  rw [List.getElem?_map, List.getElem?_range h]
  rfl
theorem Rd.strAt {w : World} {A : Option Addr} {n c : Nat} {us : List (List UInt8)} (h : Rd w (.slice A n c) (us.map str)) {k : Nat} (hk : k < us.length) : ∃ ad, A = some ad ∧ w.cell? (ad.add k) = some (str us[k]) := by
  obtain ⟨ad, c', e, hc⟩ := h.cell (j := k) (by simpa using hk)
  injection e with e1 _ _
  exact ⟨ad, e1, by rw [hc]; simp⟩
theorem below_drewN {B : Nat} {a w : World} (h : Below B a w) (n : Nat) : Below B a (w.drewN n) := ⟨h.os, h.tape, h.output, h.size, h.block⟩
theorem str_beq (a b : List UInt8) : ((⟨a.toArray⟩ : ByteArray).toList == (⟨b.toArray⟩ : ByteArray).toList) = decide (a = b) := by
  rw [ByteArray.toList_mk, ByteArray.toList_mk]
  by_cases h : a = b
  · subst h; simp
  · rw [decide_eq_false h]; exact beq_eq_false_iff_ne.2 h
set_option maxRecDepth 100000 in
set_option maxHeartbeats 16000000 in
theorem all_callsL {W0 w : World} {gl g N : Nat} {x : Lk} {V : Nat → List UInt8} {X : Nat → Prop} (h : LC W0 w gl g N x V X) (hN : 65 < N ∧ N ≤ 16000) (v : Value) (us : List (List UInt8)) (hv : Rd w v (us.map str)) (hl : us.length ≤ 1000000) :
    Calls Try.prog 26 #[.pointer (some ⟨gl, 0, none⟩), v] w fun e w' => e = .returned (.bool (decide (us = datL N x V))) ∧ Below w.heap.size w w' := by
  obtain ⟨vA, vc, rfl⟩ : ∃ A c, v = .slice A us.length c := by
    obtain ⟨A, c, rfl, _⟩ := hv
    exact ⟨A, c, by simp⟩
  obtain ⟨b, hb⟩ : ∃ b, Hid (decide (us = datL N x V) = b) := ⟨_, Lib.hid rfl⟩
  rw [hb.out]
  have hno : Hid (∀ n, n < us.length → n < N - 65 → ∀ hn : n < us.length, us[n]'hn ≠ datP x V n → b = false) := fun n h1 h2 hn hne => by
    rw [← hb.out, decide_eq_false_iff_not]
    intro e
    apply hne
    have h3 := datL_at (N := N) (x := x) (V := V) h2
    rw [← e, List.getElem?_eq_getElem hn] at h3
    exact Option.some.inj h3
  have hlen : Hid (us.length ≠ N - 65 → b = false) := fun hne => by
    rw [← hb.out, decide_eq_false_iff_not]
    intro e
    apply hne
    rw [e, datL_len]
  have hyes : Hid (us.length = N - 65 → (∀ n, n < us.length → us[n]? = some (datP x V n)) → b = true) := fun h1 h2 => by
    rw [← hb.out, decide_eq_true_iff]
    apply List.ext_getElem?
    intro i
    rcases Nat.lt_or_ge i us.length with hi | hi
    · rw [h2 i hi, datL_at (by omega)]
    · rw [List.getElem?_eq_none hi, List.getElem?_eq_none (by rw [datL_len]; omega)]
  have hh := Lib.hid h
  have hvh := Lib.hid hv
  have hNh := Lib.hid hN
  obtain ⟨L, hL⟩ : ∃ L, Hid (us.length = L) := ⟨_, Lib.hid rfl⟩
  rw [hL.out] at hvh hl hlen ⊢
  obtain ⟨B, hB⟩ : ∃ B, Hid (N - 65 = B) := ⟨_, Lib.hid rfl⟩
  have hB16 : B ≤ 16000 := by rw [← hB.out]; omega
  clear h hv hb hN
  go_enter Try.func26, Try.ntmps26
  go_wp2
  go_loopw [5] (fun iv wr => ∃ i : Nat, i ≤ L ∧ i ≤ B ∧ iv = .int .i64 (i : Int) ∧ Hid (Below w.heap.size w wr) ∧ Hid (∀ n, n < i → us[n]? = some (datP x V n))) (fun iv _ => L - (RowKit.intOf iv).toNat)
  case atStart => exact ⟨0, Nat.zero_le _, Nat.zero_le _, rfl, Below.refl _ _, fun n hn => by omega⟩
  case round =>
    obtain ⟨i, hi, hiB, rfl, hBe, hok⟩ := hrel
    have hc := hh.out.below hBe.out
    by_cases hiL : i < L
    · have hil : i < us.length := by rw [hL.out]; exact hiL
      have hR := cRead hc hNh.out (i : Int)
      obtain ⟨ad, rfl, hcl⟩ := (hvh.out.below hBe.out).strAt hil
      by_cases hib : i < B
      · rw [if_neg (by rw [hB.out]; omega), Int.toNat_natCast, hc.la.val (by rw [hB.out]; exact hib)] at hR
        have h5 := Lib.hid (hc.la.d5 (n := i) (by rw [hB.out]; exact hib))
        have hR := Lib.hid hR
        have hcl2 := Lib.hid (fun W (hW : Below wr.heap.size wr W) => (((hvh.out.below hBe.out).below hW).strAt hil))
        have hnext : Hid (us[i]'hil = datP x V i → ∀ n, n < i + 1 → us[n]? = some (datP x V n)) := fun he n hn => by
          by_cases e : n = i
          · subst e
            rw [List.getElem?_eq_getElem hil, he]
          · exact hok.out n (by omega)
        have hbad : Hid (us[i]'hil ≠ datP x V i → b = false) := fun he => hno.out i hil (by rw [hB.out]; exact hib) hil he
        clear hc hcl
        go_wp2_with fail
        refine hR.out.mono ?_
        intro e w2 hr
        obtain ⟨bx, cx, rfl, hx, hxb, _, _⟩ := hr.ok rfl h5.out
        have s1 := fun n => run_str (P := Try.prog) (w2.drewN n) 32 9 5 _ _ Try.underlying32 Try.underlying5 Try.underlying9 ((Rd.of_own hx).drewN n)
        obtain ⟨ad2, e2, z2⟩ := hcl2.out w2 hxb
        cases e2
        have hB2 : Hid (Below w.heap.size w w2) := hBe.out.trans (hxb.mono hBe.out.size)
        have hbe := str_beq (datP x V i) (us[i]'hil)
        unfold str at s1 z2
        obtain ⟨us_i, hui⟩ : ∃ u, Hid (us[i]'hil = u) := ⟨_, Lib.hid rfl⟩
        rw [hui.out] at z2 hbe hnext hbad
        have hiL' : (i : Int) < (L : Int) := by omega
        by_cases heq : datP x V i = us_i
        · have hn1 := Lib.hid (hnext.out heq.symm)
          rw [decide_eq_true heq] at hbe
          clear hr hR hx hxb hnext hbad heq hui h5 hcl2
          generalize (⟨(datP x V i).toArray⟩ : ByteArray) = p at *
          generalize (⟨us_i.toArray⟩ : ByteArray) = p2 at *
          go_wp2_with fail
          go_quiet (fail)
          clear z2 s1
          go_wp2
          go_roundw
          case rel => exact ⟨i + 1, by omega, by omega, by go_num, below_drewN hB2.out _, hn1⟩
          case measure => simp [RowKit.intOf]; omega
        · have hn1 : Hid (b = false) := hbad.out fun e => heq e.symm
          rw [decide_eq_false heq] at hbe
          clear hr hR hx hxb hnext hbad heq hui h5 hcl2
          generalize (⟨(datP x V i).toArray⟩ : ByteArray) = p at *
          generalize (⟨us_i.toArray⟩ : ByteArray) = p2 at *
          go_wp2_with fail
          go_quiet (fail)
          clear z2 s1
          go_wp2
          go_ret
          rw [hn1.out]
          exact ⟨rfl, below_drewN hB2.out _⟩
      · rw [if_pos (by rw [hB.out]; omega)] at hR
        have hn1 : Hid (b = false) := hlen.out (by rw [hB.out]; omega)
        have hR := Lib.hid hR
        clear hc hcl
        go_wp2_with fail
        refine hR.out.mono ?_
        intro e w2 hr
        obtain ⟨rfl, rfl⟩ := hr.bad (by decide)
        clear hr hR
        go_wp2_with fail
        go_quiet (fail)
        go_wp2
        go_ret
        rw [hn1.out]
        exact ⟨rfl, below_drewN hBe.out _⟩
    · obtain rfl : i = L := by omega
      have hR := cRead hc hNh.out (i : Int)
      have hBl := Lib.hid (fun W (hW : Below wr.heap.size wr W) => cBlocks (hc.below hW) hNh.out)
      by_cases hib : i < B
      · rw [if_neg (by rw [hB.out]; omega), Int.toNat_natCast] at hR
        have hn1 : Hid (b = false) := hlen.out (by rw [hB.out]; omega)
        have h5 := Lib.hid (hc.la.d5 (n := i) (by rw [hB.out]; exact hib))
        rw [hc.la.val (by rw [hB.out]; exact hib)] at hR
        have hR := Lib.hid hR
        clear hc
        go_wp2_with fail
        refine hR.out.mono ?_
        intro e w2 hr
        obtain ⟨bx, cx, rfl, hx, hxb, _, _⟩ := hr.ok rfl h5.out
        have hB2 : Hid (Below w.heap.size w w2) := hBe.out.trans (hxb.mono hBe.out.size)
        have hBl2 := hBl.out w2 hxb
        rw [hB.out] at hBl2
        have hne : ((B : Int) == (i : Int)) = false := by rw [beq_eq_false_iff_ne]; omega
        clear hr hR hx hxb
        go_wp2_with fail
        refine hBl2.mono ?_
        rintro e w3 ⟨rfl, rfl⟩
        clear hBl2
        go_wp2
        go_ret
        rw [hn1.out]
        exact ⟨rfl, hB2.out⟩
      · obtain rfl : i = B := by omega
        rw [if_pos (by rw [hB.out]; omega)] at hR
        have hn1 : Hid (b = true) := hyes.out (by rw [hL.out, hB.out]) fun n hn => hok.out n (by rw [← hL.out]; exact hn)
        have hR := Lib.hid hR
        clear hc
        go_wp2_with fail
        refine hR.out.mono ?_
        intro e w2 hr
        obtain ⟨rfl, rfl⟩ := hr.bad (by decide)
        have hBl2 := hBl.out wr (Below.refl _ _)
        rw [hB.out] at hBl2
        clear hr hR
        go_wp2_with fail
        refine hBl2.mono ?_
        rintro e w3 ⟨rfl, rfl⟩
        clear hBl2
        go_wp2
        go_ret
        rw [hn1.out]
        exact ⟨by simp, hBe.out⟩
end Go.Proofs.Ytlfbfmeppcicnaa
namespace Go.Proofs.Ytlfbfmeppcicnaa
open Go.RowKit
theorem Try.info_str : (Try.prog.info? 9).map (fun i => (i.zero, i.size, i.bytes)) = some (some (.string ⟨#[]⟩), 1, 16) := by kernel_rfl
theorem LC.app {W0 w w' : World} {gl g N n : Nat} {x : Lk} {V : Nat → List UInt8} {v v' : Value} {t : TypeId} {us us' : List Value} (h : LC W0 w gl g N x V fun k => v.ownBlock = some k) (hown : w.ownsRow W0.heap.size t 1 v n us) (ht : 5 ≠ t ∧ 3 ≠ t)
    (hg : w.grownBy w' v.ownBlock) (hat : v'.ownBlock = v.ownBlock ∨ v'.ownBlock = some w.heap.size) {n' : Nat} (hown' : w'.ownsRow W0.heap.size t 1 v' n' us') : LC W0 w' gl g N x V fun k => v'.ownBlock = some k := by
  obtain ⟨S, F, h1, h2⟩ := h.ex
  have hc : Chg (fun k => v.ownBlock = some k) w w' := (Chg.refl _ w).grown hg (fun k hk _ => hk)
  have hty : ∀ k tt cs, Blk w k tt cs → tt ≠ t → ¬ v.ownBlock = some k := fun k tt cs hb hne hk => by
    obtain ⟨cs2, hb2⟩ := own_kindI hown hk
    exact absurd rfl (hb.ne_ hb2 hne)
  refine ⟨⟨S, F, h1.chgT hc (fun k hk hz => (h2 k hk).2 hz) (fun k cs hb => hty k _ cs hb ht.1) (fun k cs hb => hty k _ cs hb ht.2), fun k hk => ⟨(h2 k hk).1, fun hv => ?_⟩⟩, h.la, below_chg h.bel hc (fun k hk => own_geI hown k hk), fun k hk => (World.ownsRow.lt hown' k hk).2⟩
  rcases hat with e | e
  · rw [e] at hv
    exact (h2 k hk).2 hv
  · rw [e] at hv
    cases hv
    exact absurd (h1.lt hk) (Nat.lt_irrefl _)
theorem LC.nilX {W0 w : World} {gl g N : Nat} {x : Lk} {V : Nat → List UInt8} (h : LC W0 w gl g N x V fun _ => False) : LC W0 w gl g N x V fun k => (Value.slice none 0 0).ownBlock = some k := h.less fun k hk => by simp [Value.ownBlock] at hk
theorem datL_fresh (N : Nat) (d d' : Dk) (p : Int) (o : Bool) (V : Nat → List UInt8) : datL N (freshK d) V = datL N ⟨d', fun _ => none, p, o⟩ V := rfl
theorem Rd.keepX {w w' : World} {v : Value} {us : List Value} (h : Rd w v us) (hk : KeepX (fun k => v.ownBlock = some k) w w') : Rd w' v us := h.keep fun k hv _ => hk k hv
end Go.Proofs.Ytlfbfmeppcicnaa
