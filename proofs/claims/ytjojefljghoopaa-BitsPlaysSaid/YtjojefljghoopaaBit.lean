import Derived.Test.YtjojefljghoopaaNum
namespace Go.Proofs.Ytjojefljghoopaa
open Go.RowKit

def bv (b : UInt8) : Value := .int .u8 (b.toNat : Int)
def bvs (xs : List UInt8) : List Value := xs.map bv
theorem bvs_length (a : List UInt8) : (bvs a).length = a.length := List.length_map _
theorem Rd.shape8 {w : World} {x : Value} {bs : List UInt8} (h : Rd w x (bvs bs)) : ∃ A c, x = .slice A bs.length c := by
  obtain ⟨A, c, rfl, _⟩ := h
  exact ⟨A, c, by rw [bvs_length]⟩
theorem Rd.at8 {w : World} {x : Value} {bs : List UInt8} (h : Rd w x (bvs bs)) {k : Nat} (hk : k < bs.length) : ∃ ad c, x = .slice (some ad) bs.length c ∧ w.cell? (ad.add k) = some (bv bs[k]) := by
  obtain ⟨ad, c, e, hc⟩ := h.cell (j := k) (by rw [bvs_length]; exact hk)
  exact ⟨ad, c, by rw [e, bvs_length], by rw [hc]; simp [bvs]⟩

theorem Rd.at8a {w : World} {A : Option Addr} {n c : Nat} {bs : List UInt8} (h : Rd w (.slice A n c) (bvs bs)) {k : Nat} (hk : k < bs.length) : ∃ ad, A = some ad ∧ w.cell? (ad.add k) = some (bv bs[k]) := by
  obtain ⟨ad, c', e, hc⟩ := h.at8 hk
  injection e with e1 _ _
  exact ⟨ad, e1, hc⟩
/-- Bit i of a map. -/
def bitAt (bs : List UInt8) (i : Nat) : Bool := (bs.getD (i / 8) 0).toNat.testBit (i % 8)
def isP (bs : List UInt8) (i : Int) : Bool := decide (0 ≤ i) && decide (i / 8 < (bs.length : Int))
def hasP (bs : List UInt8) (i : Int) : Bool := isP bs i && bitAt bs i.toNat

set_option maxHeartbeats 400000 in
theorem is_calls (w : World) (x : Value) (bs : List UInt8) (i : Int) (hx : Rd w x (bvs bs)) (hl : bs.length ≤ 1000000000000) (h1 : -9223372036854775808 ≤ i) (h2 : i ≤ 9223372036854775807) :
    Calls Try.prog 22 #[x, .int .i64 i] w fun e w' => e = .returned (.bool (isP bs i)) ∧ w = w' := by
  obtain ⟨A, c, rfl⟩ := hx.shape8
  unfold isP
  by_cases h0 : 0 ≤ i
  · have hd : decide (0 ≤ i) = true := decide_eq_true h0
    go_enter Try.func22, Try.ntmps22
    go_wp2
    go_ret
    refine ⟨?_, rfl⟩
    show Ending.returned (.bool (decide (i / 8 < (bs.length : Int)))) = _
    rw [hd, Bool.true_and]
  · have hd : decide (0 ≤ i) = false := decide_eq_false h0
    go_enter Try.func22, Try.ntmps22
    go_wp2
    go_ret
    simp

set_option maxHeartbeats 400000 in
theorem has_calls (w : World) (x : Value) (bs : List UInt8) (i : Int) (hx : Rd w x (bvs bs)) (hl : bs.length ≤ 1000000000000) (h1 : -9223372036854775808 ≤ i) (h2 : i ≤ 9223372036854775807) :
    Calls Try.prog 15 #[x, .int .i64 i] w fun e w' => e = .returned (.bool (hasP bs i)) ∧ w = w' := by
  have hx0 := hx
  obtain ⟨A, c, rfl⟩ := hx.shape8
  unfold hasP
  have HI := Lib.hid (is_calls w _ bs i hx0 hl h1 h2)
  by_cases hp : isP bs i = true
  · rw [hp] at HI ⊢
    have hp' := hp
    simp only [isP, Bool.and_eq_true, decide_eq_true_eq] at hp'
    obtain ⟨h0, hq⟩ := hp'
    obtain ⟨m, rfl⟩ := Int.eq_ofNat_of_zero_le h0
    rw [Int.toNat_natCast]
    have hq2 : m / 8 < bs.length := by omega
    obtain ⟨ad, rfl, hc⟩ := hx0.at8a hq2
    unfold bv at hc
    have hbit : bitAt bs m = bs[m / 8].toNat.testBit (m % 8) := by unfold bitAt; rw [List.getD_eq_getElem?_getD, List.getElem?_eq_getElem hq2]; rfl
    have HB := Lib.hid hbit
    generalize hv : bs[m / 8].toNat = v at *
    have hv2 : v < 256 := by rw [← hv]; exact bs[m / 8].toNat_lt
    clear hv hbit hp
    obtain ⟨q, hq1⟩ : ∃ q, q = m / 8 := ⟨_, rfl⟩
    rw [← hq1] at hc hq2
    have hqe : (m : Int) / 8 = (q : Int) := by omega
    clear hq1
    obtain ⟨r, hr⟩ : ∃ r, r = m % 8 := ⟨_, rfl⟩
    rw [← hr] at HB
    have hr8 : r < 8 := by omega
    have hre : bits .and .i64 (m : Int) 7 = (r : Int) := by
      rw [show (7 : Int) = ((7 : Nat) : Int) from rfl, bits_and_i64 m 7 (by omega) (by omega), hr]
      congr 1
      exact Nat.and_two_pow_sub_one_eq_mod m 3
    clear hr
    have hb1 : bits .and .u8 ((v : Int) / 2 ^ r) 1 = if v.testBit r then 1 else 0 := by
      rw [show ((v : Int) / 2 ^ r) = ((v / 2 ^ r : Nat) : Int) from by rw [Int.natCast_ediv, Int.natCast_pow]; rfl, show (1 : Int) = ((1 : Nat) : Int) from rfl,
        bits_and_u8 _ 1 (Nat.lt_of_le_of_lt (Nat.div_le_self _ _) hv2) (by omega), Nat.and_one_is_mod, Nat.testBit_eq_decide_div_mod_eq]
      by_cases h : v / 2 ^ r % 2 = 1
      · simp [h]
      · rw [show v / 2 ^ r % 2 = 0 by omega]; simp
    have HBB := HB.out
    cases hbv : v.testBit r with
    | true =>
      rw [hbv] at hb1 HBB
      simp only [if_true] at hb1
      rw [HBB]
      clear hbv HB HBB
      go_enter Try.func15, Try.ntmps15
      go_wp2_with fail
      refine HI.out.mono ?_
      rintro e w1 ⟨rfl, rfl⟩
      go_wp2
      go_ret
      exact ⟨rfl, rfl⟩
    | false =>
      rw [hbv] at hb1 HBB
      simp only [Bool.false_eq_true, if_false] at hb1
      rw [HBB]
      clear hbv HB HBB
      go_enter Try.func15, Try.ntmps15
      go_wp2_with fail
      refine HI.out.mono ?_
      rintro e w1 ⟨rfl, rfl⟩
      go_wp2
      go_ret
      exact ⟨rfl, rfl⟩
  · have hp : isP bs i = false := by simpa using hp
    rw [hp] at HI ⊢
    clear hp
    go_enter Try.func15, Try.ntmps15
    go_wp2_with fail
    refine HI.out.mono ?_
    rintro e w1 ⟨rfl, rfl⟩
    go_wp2
    go_ret
    exact ⟨rfl, rfl⟩
end Go.Proofs.Ytjojefljghoopaa
