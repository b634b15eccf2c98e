import Derived.Test.YtjojefljghoopaaBitU
namespace Go.Proofs.Ytjojefljghoopaa
open Go.RowKit

/- The document's own maps: the same words. -/
set_option maxHeartbeats 400000 in
theorem rhas_calls (w : World) (x : Value) (bs : List UInt8) (i : Int) (hx : Rd w x (bvs bs)) (hl : bs.length ≤ 1000000000000) (h1 : -9223372036854775808 ≤ i) (h2 : i ≤ 9223372036854775807) :
    Calls Try.prog 20 #[x, .int .i64 i] w fun e w' => e = .returned (.bool (hasP bs i)) ∧ w = w' := by
  have hx0 := hx
  obtain ⟨A, c, rfl⟩ := hx.shape8
  unfold hasP
  by_cases hp : isP bs i = true
  · rw [hp]
    have hp' := hp
    simp only [isP, Bool.and_eq_true, decide_eq_true_eq] at hp'
    obtain ⟨h0, hq⟩ := hp'
    obtain ⟨m, rfl⟩ := Int.eq_ofNat_of_zero_le h0
    rw [Int.toNat_natCast]
    have hq2 : m / 8 < bs.length := by omega
    obtain ⟨ad, rfl, hc⟩ := hx0.at8a hq2
    unfold bv at hc
    have hbit : bitAt bs m = bs[m / 8].toNat.testBit (m % 8) := by unfold bitAt; rw [List.getD_eq_getElem?_getD, List.getElem?_eq_getElem hq2]; rfl
    have HB := Lib.hid hbit
    generalize hv : bs[m / 8].toNat = v at *
    have hv2 : v < 256 := by rw [← hv]; exact bs[m / 8].toNat_lt
    clear hv hbit hp
    obtain ⟨q, hq1⟩ : ∃ q, q = m / 8 := ⟨_, rfl⟩
    rw [← hq1] at hc hq2
    have hqe : (m : Int) / 8 = (q : Int) := by omega
    clear hq1
    obtain ⟨r, hr⟩ : ∃ r, r = m % 8 := ⟨_, rfl⟩
    rw [← hr] at HB
    have hr8 : r < 8 := by omega
    have hre : (m : Int) % 8 = (r : Int) := by omega
    have hlt : (m : Int) < 8 * (bs.length : Int) := by omega
    clear hr
    have hb1 : bits .and .u8 ((v : Int) / 2 ^ r) 1 = if v.testBit r then 1 else 0 := by
      rw [show ((v : Int) / 2 ^ r) = ((v / 2 ^ r : Nat) : Int) from by rw [Int.natCast_ediv, Int.natCast_pow]; rfl, show (1 : Int) = ((1 : Nat) : Int) from rfl,
        bits_and_u8 _ 1 (Nat.lt_of_le_of_lt (Nat.div_le_self _ _) hv2) (by omega), Nat.and_one_is_mod, Nat.testBit_eq_decide_div_mod_eq]
      by_cases h : v / 2 ^ r % 2 = 1
      · simp [h]
      · rw [show v / 2 ^ r % 2 = 0 by omega]; simp
    have HBB := HB.out
    cases hbv : v.testBit r with
    | true =>
      rw [hbv] at hb1 HBB
      simp only [if_true] at hb1
      rw [HBB]
      clear hbv HB HBB
      go_enter Try.func20, Try.ntmps20
      go_wp2
      go_ret
      exact ⟨rfl, rfl⟩
    | false =>
      rw [hbv] at hb1 HBB
      simp only [Bool.false_eq_true, if_false] at hb1
      rw [HBB]
      clear hbv HB HBB
      go_enter Try.func20, Try.ntmps20
      go_wp2
      go_ret
      exact ⟨rfl, rfl⟩
  · have hp : isP bs i = false := by simpa using hp
    have hc : i < 0 ∨ (0 ≤ i ∧ 8 * (bs.length : Int) ≤ i) := by
      have := mt (isP_iff bs i).2 (by rw [hp]; simp)
      omega
    rw [hp, Bool.false_and]
    clear hp
    rcases hc with hc | ⟨h0, hc⟩
    all_goals
      go_enter Try.func20, Try.ntmps20
      go_wp2
      go_ret
      exact ⟨rfl, rfl⟩
set_option maxHeartbeats 400000 in
theorem rends_calls (w : World) (x : Value) (bs : List UInt8) (a b : Int) (hx : Rd w x (bvs bs)) (hl : bs.length ≤ 1000000000000)
    (a1 : -9223372036854775808 ≤ a) (a2 : a ≤ 9223372036854775807) (b1 : -9223372036854775808 ≤ b) (b2 : b ≤ 9223372036854775807) :
    Calls Try.prog 23 #[x, .int .i64 a, .int .i64 b] w fun e w' => e = .returned (.tuple #[.int .i64 (lo a), .int .i64 (hi bs b)]) ∧ w = w' := by
  obtain ⟨A, c, rfl⟩ := hx.shape8
  by_cases h1 : a < 0 <;> by_cases h2 : 8 * (bs.length : Int) < b
  · rw [show lo a = 0 by unfold lo; omega, show hi bs b = 8 * (bs.length : Int) by unfold hi; omega]
    go_enter Try.func23, Try.ntmps23
    go_wp2
    go_ret2
    exact ⟨rfl, rfl⟩
  · rw [show lo a = 0 by unfold lo; omega, show hi bs b = b by unfold hi; omega]
    go_enter Try.func23, Try.ntmps23
    go_wp2
    go_ret2
    exact ⟨rfl, rfl⟩
  · rw [show lo a = a by unfold lo; omega, show hi bs b = 8 * (bs.length : Int) by unfold hi; omega]
    go_enter Try.func23, Try.ntmps23
    go_wp2
    go_ret2
    exact ⟨rfl, rfl⟩
  · rw [show lo a = a by unfold lo; omega, show hi bs b = b by unfold hi; omega]
    go_enter Try.func23, Try.ntmps23
    go_wp2
    go_ret2
    exact ⟨rfl, rfl⟩
set_option maxHeartbeats 400000 in
theorem rrun_calls (w : World) (x : Value) (bs : List UInt8) (a b n : Int) (hx : Rd w x (bvs bs)) (hl : bs.length ≤ 1000000000000)
    (a1 : -9223372036854775808 ≤ a) (a2 : a ≤ 9223372036854775807) (b1 : -9223372036854775808 ≤ b) (b2 : b ≤ 9223372036854775807) (n1 : -9223372036854775808 ≤ n) (n2 : n ≤ 9223372036854775807) :
    Calls Try.prog 19 #[x, .int .i64 a, .int .i64 b, .int .i64 n] w fun e w' => e = .returned (.tuple #[.int .i64 (runP bs a b n).1, .bool (runP bs a b n).2]) ∧ w = w' := by
  have hx0 := hx
  obtain ⟨A, c, rfl⟩ := hx.shape8
  have HE := Lib.hid (rends_calls w _ bs a b hx hl a1 a2 b1 b2)
  by_cases hn : n < 1
  · have hr : runP bs a b n = (0, false) := by simp [runP, hn]
    rw [hr]
    clear hr
    go_enter Try.func19, Try.ntmps19
    go_wp2_with fail
    refine HE.out.mono ?_
    rintro e w1 ⟨rfl, rfl⟩
    go_wp2
    go_ret2
    exact ⟨rfl, rfl⟩
  · have hr : runP bs a b n = runG bs n (hi bs b - lo a).toNat (lo a) 0 := by simp [runP, hn]
    rw [hr]
    clear hr
    have L1 : 0 ≤ lo a := by unfold lo; omega
    have L2 : lo a ≤ 9223372036854775807 := by unfold lo; omega
    have H1 : hi bs b ≤ 8 * (bs.length : Int) := by unfold hi; omega
    have H2 : -9223372036854775808 ≤ hi bs b := by unfold hi; omega
    generalize lo a = l at *
    generalize hi bs b = h at *
    obtain ⟨R, hR⟩ : ∃ R, R = runG bs n (h - l).toNat l 0 := ⟨_, rfl⟩
    rw [← hR]
    have HR := Lib.hid hR
    clear hR a1 a2
    go_enter Try.func19, Try.ntmps19
    go_wp2_with fail
    refine HE.out.mono ?_
    rintro e w1 ⟨rfl, rfl⟩
    go_wp2
    go_loop [10, 11] (fun r i => ∃ (row j : Int), 0 ≤ row ∧ row ≤ j ∧ l ≤ j ∧ j ≤ 9223372036854775807 ∧ r = .int .i64 row ∧ i = .int .i64 j ∧ Hid (R = runG bs n (h - j).toNat j row)) (fun _ i => (h - intOf i).toNat)
    case atStart => exact ⟨0, l, by omega, by omega, by omega, L2, rfl, rfl, HR⟩
    case round =>
      obtain ⟨row, j, r1, r2, j1, j2, rfl, rfl, HQ⟩ := hrel
      by_cases hlt : j < h
      · have HS : Hid (R = if (if hasP bs j = true then 0 else row + 1) = n then (j - n + 1, true) else runG bs n (h - (j + 1)).toNat (j + 1) (if hasP bs j = true then 0 else row + 1)) := by
          have := HQ.out
          rw [show (h - j).toNat = (h - (j + 1)).toNat + 1 from by omega] at this
          exact this
        clear HQ
        have HC := Lib.hid (rhas_calls w _ bs j hx0 hl (by omega) (by omega))
        cases hb : hasP bs j with
        | true =>
          simp only [hb, if_true] at HS HC
          rw [if_neg (by omega)] at HS
          clear hb
          have hz : ((0 : Int) == n) = false := by simp; omega
          go_wp2_with fail
          refine HC.out.mono ?_
          rintro e w1 ⟨rfl, rfl⟩
          go_wp2
          go_round
          case rel => exact ⟨0, j + 1, by omega, by omega, by omega, by omega, rfl, rfl, HS⟩
          case measure => simp [intOf]; omega
        | false =>
          simp only [hb, Bool.false_eq_true, if_false] at HS HC
          clear hb
          by_cases hz : row + 1 = n
          · rw [if_pos hz] at HS
            have hzb : (row + 1 == n) = true := by simpa using hz
            clear hz
            go_wp2_with fail
            refine HC.out.mono ?_
            rintro e w1 ⟨rfl, rfl⟩
            go_wp2
            go_ret2
            rw [HS.out]
            exact ⟨rfl, rfl⟩
          · rw [if_neg hz] at HS
            have hzb : (row + 1 == n) = false := by simpa using hz
            clear hz
            go_wp2_with fail
            refine HC.out.mono ?_
            rintro e w1 ⟨rfl, rfl⟩
            go_wp2
            go_round
            case rel => exact ⟨row + 1, j + 1, by omega, by omega, by omega, by omega, rfl, rfl, HS⟩
            case measure => simp [intOf]; omega
      · have HE : Hid (R = (0, false)) := by
          have := HQ.out
          rw [show (h - j).toNat = 0 from by omega] at this
          exact this
        go_wp2
        go_ret2
        rw [HE.out]
        exact ⟨rfl, rfl⟩
set_option maxHeartbeats 400000 in
theorem rcount_calls (w : World) (x : Value) (bs : List UInt8) (a b : Int) (hx : Rd w x (bvs bs)) (hl : bs.length ≤ 1000000000000)
    (a1 : -9223372036854775808 ≤ a) (a2 : a ≤ 9223372036854775807) (b1 : -9223372036854775808 ≤ b) (b2 : b ≤ 9223372036854775807) :
    Calls Try.prog 21 #[x, .int .i64 a, .int .i64 b] w fun e w' => e = .returned (.int .i64 (countP bs a b)) ∧ w = w' := by
  have hx0 := hx
  obtain ⟨A, c, rfl⟩ := hx.shape8
  have HE0 := Lib.hid (rends_calls w _ bs a b hx hl a1 a2 b1 b2)
  have L1 : 0 ≤ lo a := by unfold lo; omega
  have L2 : lo a ≤ 9223372036854775807 := by unfold lo; omega
  have H1 : hi bs b ≤ 8 * (bs.length : Int) := by unfold hi; omega
  have H2 : -9223372036854775808 ≤ hi bs b := by unfold hi; omega
  unfold countP
  generalize lo a = l at *
  generalize hi bs b = h at *
  obtain ⟨R, hR⟩ : ∃ R, R = cntG bs (h - l).toNat l := ⟨_, rfl⟩
  rw [← hR]
  have HR : Hid (R = 0 + cntG bs (h - l).toNat l) := by show _ = _; rw [hR]; omega
  clear hR a1 a2
  go_enter Try.func21, Try.ntmps21
  go_wp2_with fail
  refine HE0.out.mono ?_
  rintro e w1 ⟨rfl, rfl⟩
  go_wp2
  go_loop [7, 8] (fun r i => ∃ (k j : Int), 0 ≤ k ∧ k ≤ j ∧ l ≤ j ∧ j ≤ 9223372036854775807 ∧ r = .int .i64 k ∧ i = .int .i64 j ∧ Hid (R = k + cntG bs (h - j).toNat j)) (fun _ i => (h - intOf i).toNat)
  case atStart => exact ⟨0, l, by omega, by omega, by omega, L2, rfl, rfl, HR⟩
  case round =>
    obtain ⟨k, j, r1, r2, j1, j2, rfl, rfl, HQ⟩ := hrel
    by_cases hlt : j < h
    · have HS : Hid (R = k + ((if hasP bs j = true then 1 else 0) + cntG bs (h - (j + 1)).toNat (j + 1))) := by
        have := HQ.out
        rw [show (h - j).toNat = (h - (j + 1)).toNat + 1 from by omega] at this
        exact this
      clear HQ
      have HC := Lib.hid (rhas_calls w _ bs j hx0 hl (by omega) (by omega))
      cases hb : hasP bs j with
      | true =>
        simp only [hb, if_true] at HS HC
        clear hb
        go_wp2_with fail
        refine HC.out.mono ?_
        rintro e w1 ⟨rfl, rfl⟩
        go_wp2
        go_round
        case rel => exact ⟨k + 1, j + 1, by omega, by omega, by omega, by omega, rfl, rfl, by have := HS.out; show _ = _; omega⟩
        case measure => simp [intOf]; omega
      | false =>
        simp only [hb, Bool.false_eq_true, if_false] at HS HC
        clear hb
        go_wp2_with fail
        refine HC.out.mono ?_
        rintro e w1 ⟨rfl, rfl⟩
        go_wp2
        go_round
        case rel => exact ⟨k, j + 1, by omega, by omega, by omega, by omega, rfl, rfl, by have := HS.out; show _ = _; omega⟩
        case measure => simp [intOf]; omega
    · have HE : Hid (k = R) := by
        have := HQ.out
        rw [show (h - j).toNat = 0 from by omega] at this
        show _ = _
        rw [this]; simp [cntG]
      go_wp2
      go_ret
      rw [← HE.out]
      exact ⟨rfl, rfl⟩

set_option maxHeartbeats 400000 in
theorem rfirst_calls (w : World) (x : Value) (bs : List UInt8) (a b : Int) (hx : Rd w x (bvs bs)) (hl : bs.length ≤ 1000000000000)
    (a1 : -9223372036854775808 ≤ a) (a2 : a ≤ 9223372036854775807) (b1 : -9223372036854775808 ≤ b) (b2 : b ≤ 9223372036854775807) :
    Calls Try.prog 18 #[x, .int .i64 a, .int .i64 b] w fun e w' => e = .returned (.tuple #[.int .i64 (runP bs a b 1).1, .bool (runP bs a b 1).2]) ∧ w = w' := by
  have HC := Lib.hid (rrun_calls w x bs a b 1 hx hl a1 a2 b1 b2 (by omega) (by omega))
  generalize runP bs a b 1 = R at *
  obtain ⟨r, o⟩ := R
  go_enter Try.func18, Try.ntmps18
  go_wp2_with fail
  refine HC.out.mono ?_
  rintro e w1 ⟨rfl, rfl⟩
  go_wp2
  go_ret2
  exact ⟨rfl, rfl⟩

end Go.Proofs.Ytjojefljghoopaa
