/- The numbers of package inode and of the document's own: what each function answers. -/
import Derived.Test.YtdlfaoggjimbpaaSls
namespace Go.Proofs.Ytdlfaoggjimbpaa
open Go.RowKit
def Ans (w : World) (v : Value) (e : Ending) (w' : World) : Prop := e = .returned v ∧ w = w'
def blocksP (s : Int) : Int := if s < 0 ∨ 8458240 < s then 0 else (s + 511) / 512
def innerP (n : Int) : Int := if n ≤ 8 then 0 else if n ≤ 136 then 1 else 2 + (n - 9) / 128
def allN (s : Int) : Int := blocksP s + innerP (blocksP s)
theorem blocksP_in (s : Int) : 0 ≤ blocksP s ∧ blocksP s ≤ 16520 := by
  unfold blocksP
  split <;> omega
theorem innerP_in (n : Int) (h : n ≤ 16520) : 0 ≤ innerP n ∧ innerP n ≤ 131 := by
  unfold innerP
  split
  · omega
  · split <;> omega
theorem Most_calls (w : World) : Calls Try.prog 52 #[] w (Ans w (.int .i64 8458240)) := by
  go_enter Try.func52, Try.ntmps52
  go_wp2
  go_ret
  exact ⟨rfl, rfl⟩
theorem right_calls (w : World) (s : Int) : Calls Try.prog 57 #[.int .i64 s] w (Ans w (.bool (decide (0 ≤ s) && decide (s ≤ 8458240)))) := by
  by_cases h : 0 ≤ s
  · have h1 : decide (0 ≤ s) = true := by simpa using h
    have HM := Lib.hid (Most_calls w)
    by_cases h2 : s ≤ 8458240
    all_goals
      rw [h1]
      go_enter Try.func57, Try.ntmps57
      go_wp2_with fail
      refine HM.out.mono ?_
      rintro e w1 ⟨rfl, rfl⟩
      go_wp2
      go_ret
      refine ⟨?_, rfl⟩
      simp [h2]
  · have h1 : decide (0 ≤ s) = false := by simpa using h
    rw [h1]
    go_enter Try.func57, Try.ntmps57
    go_wp2
    go_ret
    exact ⟨rfl, rfl⟩
theorem Blocks_calls (w : World) (s : Int) (n1 : -9223372036854775808 ≤ s) (n2 : s ≤ 9223372036854775807) : Calls Try.prog 46 #[.int .i64 s] w (Ans w (.int .i64 (blocksP s))) := by
  have HR := right_calls w s
  by_cases h : 0 ≤ s ∧ s ≤ 8458240
  · obtain ⟨h0, h1⟩ := h
    have e : blocksP s = (s + 511) / 512 := by unfold blocksP; rw [if_neg (by omega)]
    rw [e]
    rw [show (decide (0 ≤ s) && decide (s ≤ 8458240)) = true by simp [h0, h1]] at HR
    have HR := Lib.hid HR
    clear e
    go_enter Try.func46, Try.ntmps46
    go_wp2_with fail
    refine HR.out.mono ?_
    rintro e w1 ⟨rfl, rfl⟩
    go_wp2
    go_ret
    refine ⟨?_, rfl⟩
    show Ending.returned (.int .i64 _) = Ending.returned (.int .i64 _)
    congr 2
    omega
  · have e : blocksP s = 0 := by unfold blocksP; rw [if_pos (by omega)]
    rw [e]
    rw [show (decide (0 ≤ s) && decide (s ≤ 8458240)) = false by simp; omega] at HR
    have HR := Lib.hid HR
    clear e
    go_enter Try.func46, Try.ntmps46
    go_wp2_with fail
    refine HR.out.mono ?_
    rintro e w1 ⟨rfl, rfl⟩
    go_wp2
    go_ret
    exact ⟨rfl, rfl⟩
theorem RBlocks_calls (w : World) (s : Int) (n1 : -9223372036854775808 ≤ s) (n2 : s ≤ 9223372036854775807) : Calls Try.prog 47 #[.int .i64 s] w (Ans w (.int .i64 (blocksP s))) := by
  by_cases h : 0 ≤ s ∧ s ≤ 8458240
  · obtain ⟨h0, h1⟩ := h
    have e : blocksP s = (s + 511) / 512 := by unfold blocksP; rw [if_neg (by omega)]
    rw [e]
    clear e
    go_enter Try.func47, Try.ntmps47
    go_wp2
    go_ret
    refine ⟨?_, rfl⟩
    show Ending.returned (.int .i64 _) = Ending.returned (.int .i64 _)
    congr 2
    omega
  · have e : blocksP s = 0 := by unfold blocksP; rw [if_pos (by omega)]
    rw [e]
    clear e
    rcases (show s < 0 ∨ (0 ≤ s ∧ 8458240 < s) by omega) with h1 | ⟨h1, h2⟩
    all_goals
      go_enter Try.func47, Try.ntmps47
      go_wp2
      go_ret
      exact ⟨rfl, rfl⟩
theorem Inner_calls (w : World) (s : Int) (n1 : -9223372036854775808 ≤ s) (n2 : s ≤ 9223372036854775807) : Calls Try.prog 48 #[.int .i64 s] w (Ans w (.int .i64 (innerP (blocksP s)))) := by
  have HB := Lib.hid (Blocks_calls w s n1 n2)
  obtain ⟨b0, b1⟩ := blocksP_in s
  generalize blocksP s = n at *
  have e : innerP n = if n ≤ 8 then 0 else if n ≤ 136 then 1 else 2 + (n - 9) / 128 := rfl
  rcases (show n ≤ 8 ∨ (8 < n ∧ n ≤ 136) ∨ (8 < n ∧ 136 < n) by omega) with h | ⟨h1, h2⟩ | ⟨h1, h2⟩
  · rw [if_pos h] at e
    rw [e]
    clear e
    go_enter Try.func48, Try.ntmps48
    go_wp2_with fail
    refine HB.out.mono ?_
    rintro e w1 ⟨rfl, rfl⟩
    go_wp2
    go_ret
    exact ⟨rfl, rfl⟩
  · rw [if_neg (by omega), if_pos h2] at e
    rw [e]
    clear e
    go_enter Try.func48, Try.ntmps48
    go_wp2_with fail
    refine HB.out.mono ?_
    rintro e w1 ⟨rfl, rfl⟩
    go_wp2
    go_ret
    exact ⟨rfl, rfl⟩
  · rw [if_neg (by omega), if_neg (by omega)] at e
    rw [e]
    clear e
    go_enter Try.func48, Try.ntmps48
    go_wp2_with fail
    refine HB.out.mono ?_
    rintro e w1 ⟨rfl, rfl⟩
    go_wp2
    go_ret
    refine ⟨?_, rfl⟩
    show Ending.returned (.int .i64 _) = Ending.returned (.int .i64 _)
    congr 2
    omega
theorem RInner_calls (w : World) (s : Int) (n1 : -9223372036854775808 ≤ s) (n2 : s ≤ 9223372036854775807) : Calls Try.prog 49 #[.int .i64 s] w (Ans w (.int .i64 (innerP (blocksP s)))) := by
  have HB := Lib.hid (RBlocks_calls w s n1 n2)
  obtain ⟨b0, b1⟩ := blocksP_in s
  generalize blocksP s = n at *
  have e : innerP n = if n ≤ 8 then 0 else if n ≤ 136 then 1 else 2 + (n - 9) / 128 := rfl
  rcases (show n ≤ 8 ∨ (8 < n ∧ n ≤ 136) ∨ (8 < n ∧ 136 < n) by omega) with h | ⟨h1, h2⟩ | ⟨h1, h2⟩
  · rw [if_pos h] at e
    rw [e]
    clear e
    go_enter Try.func49, Try.ntmps49
    go_wp2_with fail
    refine HB.out.mono ?_
    rintro e w1 ⟨rfl, rfl⟩
    go_wp2
    go_ret
    exact ⟨rfl, rfl⟩
  · rw [if_neg (by omega), if_pos h2] at e
    rw [e]
    clear e
    go_enter Try.func49, Try.ntmps49
    go_wp2_with fail
    refine HB.out.mono ?_
    rintro e w1 ⟨rfl, rfl⟩
    go_wp2
    go_ret
    exact ⟨rfl, rfl⟩
  · rw [if_neg (by omega), if_neg (by omega)] at e
    rw [e]
    clear e
    go_enter Try.func49, Try.ntmps49
    go_wp2_with fail
    refine HB.out.mono ?_
    rintro e w1 ⟨rfl, rfl⟩
    go_wp2
    go_ret
    refine ⟨?_, rfl⟩
    show Ending.returned (.int .i64 _) = Ending.returned (.int .i64 _)
    congr 2
    omega
theorem All_calls (w : World) (s : Int) (n1 : -9223372036854775808 ≤ s) (n2 : s ≤ 9223372036854775807) : Calls Try.prog 50 #[.int .i64 s] w (Ans w (.int .i64 (allN s))) := by
  have HB := Lib.hid (Blocks_calls w s n1 n2)
  have HI := Lib.hid (Inner_calls w s n1 n2)
  obtain ⟨b0, b1⟩ := blocksP_in s
  obtain ⟨c0, c1⟩ := innerP_in _ b1
  unfold allN
  generalize innerP (blocksP s) = m at *
  generalize blocksP s = n at *
  go_enter Try.func50, Try.ntmps50
  go_wp2_with fail
  refine HB.out.mono ?_
  rintro e w1 ⟨rfl, rfl⟩
  go_wp2_with fail
  refine HI.out.mono ?_
  rintro e w1 ⟨rfl, rfl⟩
  go_wp2
  go_ret
  exact ⟨rfl, rfl⟩
theorem RAll_calls (w : World) (s : Int) (n1 : -9223372036854775808 ≤ s) (n2 : s ≤ 9223372036854775807) : Calls Try.prog 51 #[.int .i64 s] w (Ans w (.int .i64 (allN s))) := by
  have HB := Lib.hid (RBlocks_calls w s n1 n2)
  have HI := Lib.hid (RInner_calls w s n1 n2)
  obtain ⟨b0, b1⟩ := blocksP_in s
  obtain ⟨c0, c1⟩ := innerP_in _ b1
  unfold allN
  generalize innerP (blocksP s) = m at *
  generalize blocksP s = n at *
  go_enter Try.func51, Try.ntmps51
  go_wp2_with fail
  refine HB.out.mono ?_
  rintro e w1 ⟨rfl, rfl⟩
  go_wp2_with fail
  refine HI.out.mono ?_
  rintro e w1 ⟨rfl, rfl⟩
  go_wp2
  go_ret
  exact ⟨rfl, rfl⟩
end Go.Proofs.Ytdlfaoggjimbpaa
