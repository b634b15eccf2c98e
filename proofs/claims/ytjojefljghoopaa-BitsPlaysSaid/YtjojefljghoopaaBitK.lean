import Derived.Test.YtjojefljghoopaaBitC
import Derived.Laws.BytesArg
namespace Go.Proofs.Ytjojefljghoopaa
open Go.RowKit

def str (bs : List UInt8) : Value := .string ⟨bs.toArray⟩
theorem run_str {P : Program} (w : World) (src dst e : TypeId) (v : Value) (bs : List UInt8) (hs : P.underlying src = some (.slice e)) (he : P.underlying e = some (.int .u8)) (hd : P.underlying dst = some .string) (h : Rd w v (bvs bs)) :
    (convert src dst v).run P w = .ok (str bs) w := by
  obtain ⟨A, c, rfl, hl, hr⟩ := h
  rw [run_convert_bytes_string w src dst e _ _ c hs he hd]
  by_cases hb : bs = []
  · subst hb
    rcases A with _ | ad
    · simp [Conv.bytesToString, str]; rfl
    · have hl : (loadCells ad 0).run P w = .ok (([] : List Int).map (Value.int .u8)).toArray w := by simp [loadCells, loadCellsFrom]
      rw [show (bvs []).length = 0 from rfl, run_bytesToString w ad 0 c [] hl]
      simp [str]; rfl
  · obtain ⟨ad, rfl, hc⟩ := hr (by simpa [bvs] using hb)
    have hl : (loadCells ad (bvs bs).length).run P w = .ok ((bs.map fun b => (b.toNat : Int)).map (Value.int .u8)).toArray w := by
      have e : bvs bs = (bs.map fun b => (b.toNat : Int)).map (Value.int .u8) := by simp [bvs, bv]
      have h2 := run_loadCells_list (P := P) w ad (bvs bs) hc
      rw [h2, e]
    rw [run_bytesToString w ad _ c _ hl, foldl_push_bytes]
    simp only [str, List.map_map, Result.ok.injEq, Value.string.injEq, and_true]
    have e2 : (fun n : Int => UInt8.ofNat n.toNat) ∘ (fun b : UInt8 => (b.toNat : Int)) = id := by funext b; simp
    rw [e2, List.map_id]
    simp [ByteArray.empty, ByteArray.emptyWithCapacity]
    rfl

theorem Own8.below {w w' : World} {v : Value} {xs : List UInt8} (h : Own8 w v xs) (hb : Below w.heap.size w w') : Own8 w' v xs :=
  World.ownsRow.kept (row := none) h ⟨hb.os, hb.tape, hb.output, hb.size, fun k hk _ => hb.block k hk⟩ (by cases v.ownBlock <;> simp)
/-- A method of a map that is the call's own. -/
theorem MapOut.own {w0 w w' : World} {v : Value} {o : Bool × List UInt8} {b : Bool} {ys : List UInt8} {e : Ending} (hB : Below w0.heap.size w0 w) (hv : ∀ k, v.ownBlock = some k → w0.heap.size ≤ k) (h : MapOut w v o e w') (ho : o = (b, ys)) :
    e = .returned (.bool b) ∧ Own8 w' v ys ∧ Below w0.heap.size w0 w' := by
  subst ho
  exact ⟨h.1, h.2.1, hB.trans (h.2.2.below hB.size hv)⟩

set_option maxHeartbeats 400000 in
theorem known_calls (w : World) : Calls Try.prog 8 #[] w fun e w' => e = .returned (.bool true) ∧ Below w.heap.size w w' := by
  go_enter Try.func8, Try.ntmps8
  go_wp2_with fail
  refine (new_calls w 10 (by omega) (by omega)).mono ?_
  intro e w1 k
  rw [show newP 10 = ([0, 0], 0) by decide] at k
  obtain ⟨r, rfl, h1, hB1, hr1⟩ := k
  obtain ⟨A, c, rfl⟩ := h1.rd.shape8
  go_wp2_with fail
  refine (set_calls w1 _ _ 3 h1 (by simp) (by omega) (by omega)).mono ?_
  intro e w2 k
  obtain ⟨rfl, h2, hB2⟩ := k.own hB1 hr1 (show _ = (true, [8, 0]) by decide)
  clear k h1 hB1
  go_wp2_with fail
  refine (set_calls w2 _ _ 3 h2 (by simp) (by omega) (by omega)).mono ?_
  intro e w3 k
  obtain ⟨rfl, h3, hB3⟩ := k.own hB2 hr1 (show _ = (false, [8, 0]) by decide)
  clear k h2 hB2
  go_wp2_with fail
  refine (run_calls w3 _ _ 2 10 4 h3.rd (by simp) (by omega) (by omega) (by omega) (by omega) (by omega) (by omega)).mono ?_
  rintro e w4 ⟨rfl, rfl⟩
  rw [show runP [8, 0] 2 10 4 = (4, true) by decide]
  go_wp2_with fail
  refine (has_calls w3 _ _ 3 h3.rd (by simp) (by omega) (by omega)).mono ?_
  rintro e w4 ⟨rfl, rfl⟩
  rw [show hasP [8, 0] 3 = true by decide]
  go_wp2_with fail
  refine (count_calls w3 _ _ 0 10 h3.rd (by simp) (by omega) (by omega) (by omega) (by omega)).mono ?_
  rintro e w4 ⟨rfl, rfl⟩
  rw [show countP [8, 0] 0 10 = 1 by decide]
  have hs : (convert 24 9 (.slice A 2 c)).run Try.prog w3 = .ok (.string ⟨#[8, 0]⟩) w3 := run_str w3 _ _ 5 _ [8, 0] Try.underlying24 Try.underlying5 Try.underlying9 h3.rd
  go_wp2
  go_ret
  exact ⟨rfl, hB3⟩

set_option maxHeartbeats 400000 in
theorem rnew_calls (w : World) (n : Int) (n1 : -9223372036854775808 ≤ n) (n2 : n ≤ 9223372036854775807) : Calls Try.prog 10 #[.int .i64 n] w (NewOut w (newP n)) := by
  obtain ⟨i0, hi, hz0, hz1, hz2⟩ := info_parts Try.info_u8
  by_cases h : n < 0 ∨ 1048576 < n
  · have hp : newP n = ([], 1) := by simp [newP, h]
    rw [hp]
    clear hp
    rcases h with h | h
    all_goals
      go_enter Try.func10, Try.ntmps10
      go_wp2
      go_ret2
      exact ⟨_, rfl, World.ownsRow_nil _ _ _ _, Below.refl _ _, fun k hk => by simp [Value.ownBlock] at hk⟩
  · obtain ⟨k, hk⟩ : ∃ k : Nat, (n + 7) / 8 = (k : Int) := ⟨((n + 7) / 8).toNat, by omega⟩
    have hp : newP n = (List.replicate k 0, 0) := by simp [newP, h, hk]
    rw [hp]
    clear hp
    have hk2 : k ≤ 131073 := by omega
    have hn0 : 0 ≤ n := by omega
    have hn1 : n ≤ 1048576 := by omega
    have hmk := run_mk8 (P := Try.prog) 23 5 i0 (.int .u8 0) Try.underlying23 hi hz0 rfl hz1 k (by rw [hz2]; omega) (by omega)
    clear h
    go_enter Try.func10, Try.ntmps10
    go_wp2
    go_ret2
    refine ⟨_, rfl, own_mk8 w k (by omega), (Below.refl _ _).alloc (Nat.le_refl _) _, fun k hk => ?_⟩
    have hk : w.heap.size = k := by simpa [Value.ownBlock] using hk
    omega

theorem bit_zero (k i : Nat) : bitAt (List.replicate k 0) i = false := by
  unfold bitAt
  rw [List.getD_eq_getElem?_getD, List.getElem?_replicate]
  split <;> simp
theorem cnt_zero (k : Nat) : ∀ (d : Nat) (i : Int), cntG (List.replicate k 0) d i = 0
  | 0, _ => rfl
  | d + 1, i => by
    have h : hasP (List.replicate k 0) i = false := by unfold hasP; rw [bit_zero, Bool.and_false]
    rw [cntG, cnt_zero k d (i + 1), h]; rfl
theorem newP_zero (n : Int) : ∃ k, (newP n).1 = List.replicate k 0 ∧ k ≤ 131073 := by
  unfold newP
  split
  · exact ⟨0, rfl, by omega⟩
  · exact ⟨((n + 7) / 8).toNat, rfl, by omega⟩

set_option maxHeartbeats 400000 in
theorem BitsNew_calls (w : World) {n : Int} (ww0 : (Lit.int .i64 n).wf = true) : Calls Try.prog 3 #[.int .i64 n] w fun e w' => e = .returned (.bool true) ∧ Below w.heap.size w w' := by
  obtain ⟨n1, n2⟩ := wf64 ww0
  clear ww0
  by_cases hg : 16384 < n ∧ n ≤ 1048576
  · obtain ⟨g1, g2⟩ := hg
    go_enter Try.func3, Try.ntmps3
    go_wp2_with fail
    refine (known_calls w).mono ?_
    rintro e w1 ⟨rfl, hB1⟩
    go_wp2
    go_ret
    exact ⟨rfl, hB1⟩
  · have hc : n ≤ 16384 ∨ 1048576 < n := by omega
    clear hg
    obtain ⟨k, hk, hk2⟩ := newP_zero n
    have HN := fun w => Lib.hid (new_calls w n n1 n2)
    have HM := fun w => Lib.hid (rnew_calls w n n1 n2)
    generalize newP n = o at *
    obtain ⟨z, er⟩ := o
    simp only at hk
    subst hk
    have HC : ∀ W x, Rd W x (bvs (List.replicate k 0)) → Hid (Calls Try.prog 11 #[x, .int .i64 0, .int .i64 1048576] W fun e w' => e = .returned (.int .i64 0) ∧ W = w') := by
      intro W x hx
      have := count_calls W x _ 0 1048576 hx (by simp; omega) (by omega) (by omega) (by omega) (by omega)
      rw [show countP (List.replicate k 0) 0 1048576 = 0 from cnt_zero _ _ _] at this
      exact this
    rcases hc with hc | hc
    all_goals
      go_enter Try.func3, Try.ntmps3
      go_wp2_with fail
      refine (known_calls w).mono ?_
      rintro e w1 ⟨rfl, hB1⟩
      go_wp2_with fail
      refine (HN w1).out.mono ?_
      rintro e w2 ⟨r, rfl, h2, hB2, hr2⟩
      go_wp2_with fail
      refine (HM w2).out.mono ?_
      rintro e w3 ⟨s, rfl, h3, hB3, hr3⟩
      have h2' := (h2.below hB3).rd
      have hB : Below w.heap.size w w3 := hB1.trans ((hB2.mono hB1.size).trans (hB3.mono (Nat.le_trans hB1.size hB2.size)))
      have s1 := run_str (P := Try.prog) w3 24 9 5 r _ Try.underlying24 Try.underlying5 Try.underlying9 h2'
      have s2 := run_str (P := Try.prog) w3 23 9 5 s _ Try.underlying23 Try.underlying5 Try.underlying9 h3.rd
      unfold str at s1 s2
      go_wp2_with fail
      refine (HC w3 r h2').out.mono ?_
      rintro e w4 ⟨rfl, rfl⟩
      clear s1 s2
      go_wp2
      go_ret
      exact ⟨rfl, hB⟩
end Go.Proofs.Ytjojefljghoopaa
