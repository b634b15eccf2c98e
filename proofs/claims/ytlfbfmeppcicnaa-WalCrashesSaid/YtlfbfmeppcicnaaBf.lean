/- The law's patterns; a disk is made. -/
import Derived.Test.YtlfbfmeppcicnaaBc
namespace Go.Proofs.Ytlfbfmeppcicnaa
open Go.RowKit
variable {F : Nat → Prop}
theorem Rd.at8a {w : World} {A : Option Addr} {n c : Nat} {bs : List UInt8} (h : Rd w (.slice A n c) (bvs bs)) {k : Nat} (hk : k < bs.length) : ∃ ad, A = some ad ∧ w.cell? (ad.add k) = some (bv bs[k]) := by
  obtain ⟨ad, c', e, hc⟩ := h.at8 hk
  injection e with e1 _ _
  exact ⟨ad, e1, hc⟩
def fullP (b : List UInt8) : List UInt8 := (List.range 512).map fun i => b.getD (i % b.length) 0
def fullK (b : List UInt8) (k : Nat) : List UInt8 := (List.range 512).map fun i => if i < k then b.getD (i % b.length) 0 else 0
theorem fullP_len (b : List UInt8) : (fullP b).length = 512 := by simp [fullP]
theorem fullK_len (b : List UInt8) (k : Nat) : (fullK b k).length = 512 := by simp [fullK]
theorem fullK_zero (b : List UInt8) : fullK b 0 = List.replicate 512 0 := by
  unfold fullK
  rw [List.map_congr_left (g := fun _ => (0 : UInt8)) (fun i _ => if_neg (Nat.not_lt_zero i)), List.map_const', List.length_range]
theorem fullK_set (b : List UInt8) (k : Nat) (v : UInt8) (hv : v = b.getD (k % b.length) 0) : (fullK b k).set k v = fullK b (k + 1) := by
  subst hv
  apply List.ext_getElem?
  intro i
  by_cases hi : i < 512
  · rw [List.getElem?_set]
    by_cases hk : k = i
    · subst hk
      simp [fullK_len, hi, fullK]
    · rw [if_neg hk]
      simp only [fullK, List.getElem?_map, List.getElem?_range hi, Option.map_some]
      congr 1
      by_cases h : i < k
      · rw [if_pos h, if_pos (by omega)]
      · rw [if_neg h, if_neg (by omega)]
  · rw [List.getElem?_eq_none (by rw [List.length_set, fullK_len]; omega), List.getElem?_eq_none (by rw [fullK_len]; omega)]
theorem fullK_end (b : List UInt8) : fullK b 512 = fullP b := by
  unfold fullK fullP
  refine List.map_congr_left fun i hi => ?_
  rw [if_pos (List.mem_range.1 hi)]
theorem fullK_nil (k : Nat) : fullK [] k = fullP [] := by
  unfold fullK fullP
  refine List.map_congr_left fun i hi => ?_
  simp
theorem Own8.wr {w w' : World} {v : Value} {xs : List UInt8} (h : Own8 w v xs) (hw : w = w') : Own8 w' v xs := hw ▸ h
set_option maxRecDepth 10000 in
set_option maxHeartbeats 2000000 in
theorem Full_calls (w : World) (x : Value) (b : List UInt8) (hx : Rd w x (bvs b)) (hl : b.length ≤ 1000000000) :
    Calls Try.prog 19 #[x] w (ByOut w (fullP b)) := by
  obtain ⟨i0, hi, hz0, hz1, hz2⟩ := info_parts Try.info_u8
  have hmk := run_mkr (P := Try.prog) 32 5 i0 (.int .u8 0) Try.underlying32 hi hz0 rfl hz1 512 (by rw [hz2]; omega) (by omega)
  obtain ⟨w1, hw1⟩ : ∃ w1, w.alloc (.cells (List.replicate 512 (Value.int .u8 0)).toArray 5) = w1 := ⟨_, rfl⟩
  have hmk1 : Sem.run Try.prog (Instr.makeSlice 32 (.int .i64 512) (.int .i64 512)) w = .ok (.slice (some ⟨w.heap.size, 0, none⟩) 512 512) w1 := by
    rw [← hw1]
    exact hmk w
  have hO : Own8 w1 (.slice (some ⟨w.heap.size, 0, none⟩) 512 512) (fullK b 0) := by
    rw [← hw1, fullK_zero]
    have := own_mkr w 5 (List.replicate 512 (Value.int .u8 0)) 512 (by simp) (by omega)
    unfold Own8
    rw [List.length_replicate, show bvs (List.replicate 512 0) = List.replicate 512 (Value.int .u8 0) from by simp only [bvs, List.map_replicate]; rfl]
    exact this
  have hB : Below w.heap.size w w1 := by
    rw [← hw1]
    exact (Below.refl _ _).alloc (Nat.le_refl _) _
  have hsz : w.heap.size < w1.heap.size := by
    rw [← hw1]
    simp
  have hx0 := Lib.hid hx
  obtain ⟨A, c, rfl⟩ := hx.shape8
  have hO1 := Lib.hid hO
  have hB1 := Lib.hid hB
  clear hmk hx hi hz0 hz1 hz2 hw1 hO hB hsz
  obtain ⟨g, hg⟩ : ∃ g, Hid (g = w.heap.size) := ⟨_, Lib.hid rfl⟩
  rw [← hg.out] at hmk1 hO1
  go_enter Try.func19, Try.ntmps19
  go_wp2
  go_loopw [4] (fun i wr => ∃ k : Nat, k ≤ 512 ∧ i = .int .i64 k ∧ Hid (Own8 wr (.slice (some ⟨g, 0, none⟩) 512 512) (fullK b k)) ∧ Hid (Below w.heap.size w wr)) (fun i _ => 512 - (RowKit.intOf i).toNat)
  case atStart => exact ⟨0, Nat.zero_le _, rfl, hO1, hB1⟩
  case round =>
    obtain ⟨k, hk, rfl, hO, hB⟩ := hrel
    clear hO1 hB1
    have fin : ∀ (xs : List UInt8), Own8 wr (.slice (some ⟨g, 0, none⟩) 512 512) xs → xs = fullP b → Hid (Own8 wr (.slice (some ⟨g, 0, none⟩) 512 512) (fullP b)) := fun xs h e => by rw [← e]; exact h
    by_cases hlt : k < 512
    · by_cases hb0 : b = []
      · have hF := fin _ hO.out (by rw [hb0]; exact fullK_nil k)
        have hl0 : Hid (b.length = 0) := by subst hb0; rfl
        generalize b.length = m at *
        obtain rfl : m = 0 := hl0.out
        clear fin hO hb0
        go_wp2
        go_ret
        exact ⟨_, rfl, hF.out, hB.out, fun j hj => by simp [Value.ownBlock] at hj; have := hg.out; omega⟩
      · have hpos : 0 < b.length := List.length_pos_iff.2 hb0
        have hr : k % b.length < b.length := Nat.mod_lt _ hpos
        obtain ⟨ad, rfl, hc⟩ := (hx0.out.below hB.out).at8a hr
        obtain ⟨bk, hbk, hbk2⟩ : ∃ bk, b[k % b.length] = bk ∧ bk = b.getD (k % b.length) 0 := ⟨_, rfl, by rw [List.getD_eq_getElem?_getD, List.getElem?_eq_getElem hr]; rfl⟩
        rw [hbk] at hc
        have hput1 := hO.out.put rfl k bk
        rw [fullK_set b k bk hbk2] at hput1
        unfold bv at hput1 hc
        have hput := Lib.hid hput1
        have hmod : (k : Int) % (b.length : Int) = ((k % b.length : Nat) : Int) := by omega
        have hfz : wr.frozen? ⟨g, k, none⟩ = false := World.ownsRow.frozenAt hO.out _
        have hcg : wr.cell? ⟨g, k, none⟩ = some (bv ((fullK b k)[k]'(by rw [fullK_len]; exact hlt))) :=
          own_cell (show wr.ownsRow 0 5 1 (.slice (some ⟨g, 0, none⟩) 512 512) 512 (bvs (fullK b k)) from by have := hO.out; unfold Own8 at this; rwa [fullK_len] at this) (by rw [bvs, List.getElem?_map, List.getElem?_eq_getElem (by rw [fullK_len]; exact hlt)]; rfl)
        have hgle : w.heap.size ≤ g := Nat.le_of_eq hg.out.symm
        have hBn := Lib.hid (hB.out.setCell (p := ⟨g, k, none⟩) hgle (.int .u8 (bk.toNat : Int)))
        clear fin hput1 hO hB hbk hbk2 hb0 hgle
        generalize k % b.length = m at *
        generalize bk.toNat = vv at *
        go_wp2
        go_roundw
        case rel => exact ⟨k + 1, by omega, by go_num, hput, hBn⟩
        case measure => simp [RowKit.intOf]; omega
    · obtain rfl : k = 512 := by omega
      have hF := fin _ hO.out (fullK_end b)
      clear fin hO
      go_wp2
      go_ret
      exact ⟨_, rfl, hF.out, hB.out, fun j hj => by simp [Value.ownBlock] at hj; have := hg.out; omega⟩
end Go.Proofs.Ytlfbfmeppcicnaa
