import Derived.Test.YtjojefljghoopaaBitR
import Derived.Laws.MakeOwn
namespace Go.Proofs.Ytjojefljghoopaa
open Go.RowKit

set_option maxHeartbeats 400000 in
theorem count_calls (w : World) (x : Value) (bs : List UInt8) (a b : Int) (hx : Rd w x (bvs bs)) (hl : bs.length ≤ 1000000000000)
    (a1 : -9223372036854775808 ≤ a) (a2 : a ≤ 9223372036854775807) (b1 : -9223372036854775808 ≤ b) (b2 : b ≤ 9223372036854775807) :
    Calls Try.prog 11 #[x, .int .i64 a, .int .i64 b] w fun e w' => e = .returned (.int .i64 (countP bs a b)) ∧ w = w' := by
  have hx0 := hx
  obtain ⟨A, c, rfl⟩ := hx.shape8
  have m1 := run_imax (P := Try.prog) a 0
  have m2 := run_imin (P := Try.prog) b (8 * (bs.length : Int))
  have L1 : 0 ≤ lo a := by unfold lo; omega
  have L2 : lo a ≤ 9223372036854775807 := by unfold lo; omega
  have H1 : hi bs b ≤ 8 * (bs.length : Int) := by unfold hi; omega
  have H2 : -9223372036854775808 ≤ hi bs b := by unfold hi; omega
  rw [show imax a 0 = lo a from rfl] at m1
  rw [show imin b (8 * (bs.length : Int)) = hi bs b from rfl] at m2
  unfold countP
  generalize lo a = l at *
  generalize hi bs b = h at *
  obtain ⟨R, hR⟩ : ∃ R, R = cntG bs (h - l).toNat l := ⟨_, rfl⟩
  rw [← hR]
  have HR : Hid (R = 0 + cntG bs (h - l).toNat l) := by show _ = _; rw [hR]; omega
  clear hR a1 a2
  go_enter Try.func11, Try.ntmps11
  go_wp2
  go_loop [7, 8] (fun r i => ∃ (k j : Int), 0 ≤ k ∧ k ≤ j ∧ l ≤ j ∧ j ≤ 9223372036854775807 ∧ r = .int .i64 k ∧ i = .int .i64 j ∧ Hid (R = k + cntG bs (h - j).toNat j)) (fun _ i => (h - intOf i).toNat)
  case atStart => exact ⟨0, l, by omega, by omega, by omega, L2, rfl, rfl, HR⟩
  case round =>
    obtain ⟨k, j, r1, r2, j1, j2, rfl, rfl, HQ⟩ := hrel
    by_cases hlt : j < h
    · have HS : Hid (R = k + ((if hasP bs j = true then 1 else 0) + cntG bs (h - (j + 1)).toNat (j + 1))) := by
        have := HQ.out
        rw [show (h - j).toNat = (h - (j + 1)).toNat + 1 from by omega] at this
        exact this
      clear HQ
      have HC := Lib.hid (has_calls w _ bs j hx0 hl (by omega) (by omega))
      cases hb : hasP bs j with
      | true =>
        simp only [hb, if_true] at HS HC
        clear hb
        go_wp2_with fail
        refine HC.out.mono ?_
        rintro e w1 ⟨rfl, rfl⟩
        go_wp2
        go_round
        case rel => exact ⟨k + 1, j + 1, by omega, by omega, by omega, by omega, rfl, rfl, by have := HS.out; show _ = _; omega⟩
        case measure => simp [intOf]; omega
      | false =>
        simp only [hb, Bool.false_eq_true, if_false] at HS HC
        clear hb
        go_wp2_with fail
        refine HC.out.mono ?_
        rintro e w1 ⟨rfl, rfl⟩
        go_wp2
        go_round
        case rel => exact ⟨k, j + 1, by omega, by omega, by omega, by omega, rfl, rfl, by have := HS.out; show _ = _; omega⟩
        case measure => simp [intOf]; omega
    · have HE : Hid (k = R) := by
        have := HQ.out
        rw [show (h - j).toNat = 0 from by omega] at this
        show _ = _
        rw [this]; simp [cntG]
      go_wp2
      go_ret
      rw [← HE.out]
      exact ⟨rfl, rfl⟩

set_option maxHeartbeats 400000 in
theorem first_calls (w : World) (x : Value) (bs : List UInt8) (a b : Int) (hx : Rd w x (bvs bs)) (hl : bs.length ≤ 1000000000000)
    (a1 : -9223372036854775808 ≤ a) (a2 : a ≤ 9223372036854775807) (b1 : -9223372036854775808 ≤ b) (b2 : b ≤ 9223372036854775807) :
    Calls Try.prog 14 #[x, .int .i64 a, .int .i64 b] w fun e w' => e = .returned (.tuple #[.int .i64 (runP bs a b 1).1, .bool (runP bs a b 1).2]) ∧ w = w' := by
  have HC := Lib.hid (run_calls w x bs a b 1 hx hl a1 a2 b1 b2 (by omega) (by omega))
  generalize runP bs a b 1 = R at *
  obtain ⟨r, o⟩ := R
  go_enter Try.func14, Try.ntmps14
  go_wp2_with fail
  refine HC.out.mono ?_
  rintro e w1 ⟨rfl, rfl⟩
  go_wp2
  go_ret2
  exact ⟨rfl, rfl⟩

/-- make([]byte, k). -/
theorem run_mk8 {P : Program} (t e : TypeId) (i : TypeInfo) (z : Value) (ht : P.underlying t = some (.slice e)) (hi : P.info? e = some i) (hz : i.zero = some z) (hzc : z.cells = #[z]) (hs : i.size = 1)
    (k : Nat) (hk : i.bytes * k ≤ 281474976710656) (h63 : k ≤ 9223372036854775807) (w : World) :
    (Instr.makeSlice t (.int .i64 (k : Int)) (.int .i64 (k : Int))).run P w = .ok (.slice (some ⟨w.heap.size, 0, none⟩) k k) (w.alloc (.cells (List.replicate k z).toArray e)) := by
  have hb : (i.bytes : Int) * (k : Int) ≤ 281474976710656 := by
    have h : ((i.bytes * k : Nat) : Int) ≤ 281474976710656 := by omega
    rwa [Int.natCast_mul] at h
  have hr := run_make (P := P) w t e i z ht hi hz .i64 .i64 k k (by omega) (by omega) hb (by omega)
  simp only [Int.toNat_natCast, hs, Nat.mul_one, hzc] at hr
  rw [hr]
  congr 2
  congr 1
  apply Array.ext'
  rw [toList_madeCells_one]
theorem own_mk8 (w : World) (k : Nat) (hk : k ≤ 1000000000000) : Own8 (w.alloc (.cells (List.replicate k (Value.int .u8 0)).toArray 5)) (.slice (some ⟨w.heap.size, 0, none⟩) k k) (List.replicate k 0) := by
  refine ⟨by simp [bvs], .inr ⟨w.heap.size, k, _, by rw [List.length_replicate], Nat.zero_le _, heap_alloc_new w _, by rw [List.length_replicate]; exact Nat.le_refl _, by unfold maxLen; omega, by simp, ?_⟩⟩
  simp [bvs, bv]

theorem Try.info_u8 : (Try.prog.info? 5).map (fun i => (i.zero, i.size, i.bytes)) = some (some (.int .u8 0), 1, 1) := by kernel_rfl
def newP (n : Int) : List UInt8 × Int := if n < 0 ∨ 1048576 < n then ([], 1) else (List.replicate ((n + 7) / 8).toNat 0, 0)
def NewOut (w : World) (o : List UInt8 × Int) (e : Ending) (w' : World) : Prop :=
  ∃ r, e = .returned (.tuple #[r, .int .i64 o.2]) ∧ Own8 w' r o.1 ∧ Below w.heap.size w w' ∧ (∀ k, r.ownBlock = some k → w.heap.size ≤ k)
set_option maxHeartbeats 400000 in
theorem new_calls (w : World) (n : Int) (n1 : -9223372036854775808 ≤ n) (n2 : n ≤ 9223372036854775807) : Calls Try.prog 9 #[.int .i64 n] w (NewOut w (newP n)) := by
  obtain ⟨i0, hi, hz0, hz1, hz2⟩ := info_parts Try.info_u8
  by_cases h : n < 0 ∨ 1048576 < n
  · have hp : newP n = ([], 1) := by simp [newP, h]
    rw [hp]
    clear hp
    rcases h with h | h
    all_goals
      go_enter Try.func9, Try.ntmps9
      go_wp2
      go_ret2
      exact ⟨_, rfl, World.ownsRow_nil _ _ _ _, Below.refl _ _, fun k hk => by simp [Value.ownBlock] at hk⟩
  · obtain ⟨k, hk⟩ : ∃ k : Nat, (n + 7) / 8 = (k : Int) := ⟨((n + 7) / 8).toNat, by omega⟩
    have hp : newP n = (List.replicate k 0, 0) := by simp [newP, h, hk]
    rw [hp]
    clear hp
    have hk2 : k ≤ 131073 := by omega
    have hn0 : 0 ≤ n := by omega
    have hn1 : n ≤ 1048576 := by omega
    have hmk := run_mk8 (P := Try.prog) 24 5 i0 (.int .u8 0) Try.underlying24 hi hz0 rfl hz1 k (by rw [hz2]; omega) (by omega)
    clear h
    go_enter Try.func9, Try.ntmps9
    go_wp2
    go_ret2
    refine ⟨_, rfl, own_mk8 w k (by omega), (Below.refl _ _).alloc (Nat.le_refl _) _, fun k hk => ?_⟩
    have hk : w.heap.size = k := by simpa [Value.ownBlock] using hk
    omega
end Go.Proofs.Ytjojefljghoopaa
