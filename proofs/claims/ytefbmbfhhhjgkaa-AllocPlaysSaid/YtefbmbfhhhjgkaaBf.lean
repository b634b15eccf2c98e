/- The law's patterns; a disk is made. -/
import Derived.Test.YtefbmbfhhhjgkaaBc
namespace Go.Proofs.Ytefbmbfhhhjgkaa
open Go.RowKit
variable {F : Nat → Prop}
theorem Rd.at8a {w : World} {A : Option Addr} {n c : Nat} {bs : List UInt8} (h : Rd w (.slice A n c) (bvs bs)) {k : Nat} (hk : k < bs.length) : ∃ ad, A = some ad ∧ w.cell? (ad.add k) = some (bv bs[k]) := by
  obtain ⟨ad, c', e, hc⟩ := h.at8 hk
  injection e with e1 _ _
  exact ⟨ad, e1, hc⟩
def fullP (b : List UInt8) : List UInt8 := (List.range 512).map fun i => b.getD (i % b.length) 0
def fullK (b : List UInt8) (k : Nat) : List UInt8 := (List.range 512).map fun i => if i < k then b.getD (i % b.length) 0 else 0
theorem fullP_len (b : List UInt8) : (fullP b).length = 512 := by simp [fullP]
theorem fullK_len (b : List UInt8) (k : Nat) : (fullK b k).length = 512 := by simp [fullK]
theorem fullK_zero (b : List UInt8) : fullK b 0 = List.replicate 512 0 := by
  unfold fullK
  rw [List.map_congr_left (g := fun _ => (0 : UInt8)) (fun i _ => if_neg (Nat.not_lt_zero i)), List.map_const', List.length_range]
theorem fullK_set (b : List UInt8) (k : Nat) (v : UInt8) (hv : v = b.getD (k % b.length) 0) : (fullK b k).set k v = fullK b (k + 1) := by
  subst hv
  apply List.ext_getElem?
  intro i
  by_cases hi : i < 512
  · rw [List.getElem?_set]
    by_cases hk : k = i
    · subst hk
      simp [fullK_len, hi, fullK]
    · rw [if_neg hk]
      simp only [fullK, List.getElem?_map, List.getElem?_range hi, Option.map_some]
      congr 1
      by_cases h : i < k
      · rw [if_pos h, if_pos (by omega)]
      · rw [if_neg h, if_neg (by omega)]
  · rw [List.getElem?_eq_none (by rw [List.length_set, fullK_len]; omega), List.getElem?_eq_none (by rw [fullK_len]; omega)]
theorem fullK_end (b : List UInt8) : fullK b 512 = fullP b := by
  unfold fullK fullP
  refine List.map_congr_left fun i hi => ?_
  rw [if_pos (List.mem_range.1 hi)]
theorem fullK_nil (k : Nat) : fullK [] k = fullP [] := by
  unfold fullK fullP
  refine List.map_congr_left fun i hi => ?_
  simp
theorem Own8.wr {w w' : World} {v : Value} {xs : List UInt8} (h : Own8 w v xs) (hw : w = w') : Own8 w' v xs := hw ▸ h
end Go.Proofs.Ytefbmbfhhhjgkaa
