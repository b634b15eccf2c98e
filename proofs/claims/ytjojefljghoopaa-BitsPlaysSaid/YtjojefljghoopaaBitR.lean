import Derived.Test.YtjojefljghoopaaBitM
namespace Go.Proofs.Ytjojefljghoopaa
open Go.RowKit

/-- From place i on, d places, with so many free ones ahead. -/
def runG (bs : List UInt8) (n : Int) : Nat → Int → Int → Int × Bool
  | 0, _, _ => (0, false)
  | d + 1, i, row => if (if hasP bs i = true then 0 else row + 1) = n then (i - n + 1, true) else runG bs n d (i + 1) (if hasP bs i = true then 0 else row + 1)
def lo (a : Int) : Int := max a 0
def hi (bs : List UInt8) (b : Int) : Int := min b (8 * (bs.length : Int))
def runP (bs : List UInt8) (a b n : Int) : Int × Bool := if n < 1 then (0, false) else runG bs n (hi bs b - lo a).toNat (lo a) 0
def cntG (bs : List UInt8) : Nat → Int → Int
  | 0, _ => 0
  | d + 1, i => (if hasP bs i = true then 1 else 0) + cntG bs d (i + 1)
def countP (bs : List UInt8) (a b : Int) : Int := cntG bs (hi bs b - lo a).toNat (lo a)

set_option maxHeartbeats 400000 in
theorem run_calls (w : World) (x : Value) (bs : List UInt8) (a b n : Int) (hx : Rd w x (bvs bs)) (hl : bs.length ≤ 1000000000000)
    (a1 : -9223372036854775808 ≤ a) (a2 : a ≤ 9223372036854775807) (b1 : -9223372036854775808 ≤ b) (b2 : b ≤ 9223372036854775807) (n1 : -9223372036854775808 ≤ n) (n2 : n ≤ 9223372036854775807) :
    Calls Try.prog 12 #[x, .int .i64 a, .int .i64 b, .int .i64 n] w fun e w' => e = .returned (.tuple #[.int .i64 (runP bs a b n).1, .bool (runP bs a b n).2]) ∧ w = w' := by
  have hx0 := hx
  obtain ⟨A, c, rfl⟩ := hx.shape8
  by_cases hn : n < 1
  · have hr : runP bs a b n = (0, false) := by simp [runP, hn]
    rw [hr]
    clear hr
    go_enter Try.func12, Try.ntmps12
    go_wp2
    go_ret2
    exact ⟨rfl, rfl⟩
  · have hr : runP bs a b n = runG bs n (hi bs b - lo a).toNat (lo a) 0 := by simp [runP, hn]
    rw [hr]
    clear hr
    have m1 := run_imax (P := Try.prog) a 0
    have m2 := run_imin (P := Try.prog) b (8 * (bs.length : Int))
    have L1 : 0 ≤ lo a := by unfold lo; omega
    have L2 : lo a ≤ 9223372036854775807 := by unfold lo; omega
    have H1 : hi bs b ≤ 8 * (bs.length : Int) := by unfold hi; omega
    have H2 : -9223372036854775808 ≤ hi bs b := by unfold hi; omega
    rw [show imax a 0 = lo a from rfl] at m1
    rw [show imin b (8 * (bs.length : Int)) = hi bs b from rfl] at m2
    generalize lo a = l at *
    generalize hi bs b = h at *
    obtain ⟨R, hR⟩ : ∃ R, R = runG bs n (h - l).toNat l 0 := ⟨_, rfl⟩
    rw [← hR]
    have HR := Lib.hid hR
    clear hR a1 a2
    go_enter Try.func12, Try.ntmps12
    go_wp2
    go_loop [10, 11] (fun r i => ∃ (row j : Int), 0 ≤ row ∧ row ≤ j ∧ l ≤ j ∧ j ≤ 9223372036854775807 ∧ r = .int .i64 row ∧ i = .int .i64 j ∧ Hid (R = runG bs n (h - j).toNat j row)) (fun _ i => (h - intOf i).toNat)
    case atStart => exact ⟨0, l, by omega, by omega, by omega, L2, rfl, rfl, HR⟩
    case round =>
      obtain ⟨row, j, r1, r2, j1, j2, rfl, rfl, HQ⟩ := hrel
      by_cases hlt : j < h
      · have HS : Hid (R = if (if hasP bs j = true then 0 else row + 1) = n then (j - n + 1, true) else runG bs n (h - (j + 1)).toNat (j + 1) (if hasP bs j = true then 0 else row + 1)) := by
          have := HQ.out
          rw [show (h - j).toNat = (h - (j + 1)).toNat + 1 from by omega] at this
          exact this
        clear HQ
        have HC := Lib.hid (has_calls w _ bs j hx0 hl (by omega) (by omega))
        cases hb : hasP bs j with
        | true =>
          simp only [hb, if_true] at HS HC
          rw [if_neg (by omega)] at HS
          clear hb
          have hz : ((0 : Int) == n) = false := by simp; omega
          go_wp2_with fail
          refine HC.out.mono ?_
          rintro e w1 ⟨rfl, rfl⟩
          go_wp2
          go_round
          case rel => exact ⟨0, j + 1, by omega, by omega, by omega, by omega, rfl, rfl, HS⟩
          case measure => simp [intOf]; omega
        | false =>
          simp only [hb, Bool.false_eq_true, if_false] at HS HC
          clear hb
          by_cases hz : row + 1 = n
          · rw [if_pos hz] at HS
            have hzb : (row + 1 == n) = true := by simpa using hz
            clear hz
            go_wp2_with fail
            refine HC.out.mono ?_
            rintro e w1 ⟨rfl, rfl⟩
            go_wp2
            go_ret2
            rw [HS.out]
            exact ⟨rfl, rfl⟩
          · rw [if_neg hz] at HS
            have hzb : (row + 1 == n) = false := by simpa using hz
            clear hz
            go_wp2_with fail
            refine HC.out.mono ?_
            rintro e w1 ⟨rfl, rfl⟩
            go_wp2
            go_round
            case rel => exact ⟨row + 1, j + 1, by omega, by omega, by omega, by omega, rfl, rfl, HS⟩
            case measure => simp [intOf]; omega
      · have HE : Hid (R = (0, false)) := by
          have := HQ.out
          rw [show (h - j).toNat = 0 from by omega] at this
          exact this
        go_wp2
        go_ret2
        rw [HE.out]
        exact ⟨rfl, rfl⟩
end Go.Proofs.Ytjojefljghoopaa
