/- Cut. -/
import Derived.Test.YtefbmbfhhhjgkaaBi
import Derived.Test.YtefbmbfhhhjgkaaSri
namespace Go.Proofs.Ytefbmbfhhhjgkaa
open Go.RowKit
variable {F : Nat → Prop}
def pickB (b : List UInt8) (vs : List (List UInt8)) (p : Int) : List UInt8 :=
  match (p % ((vs.length : Int) + 1)).toNat with
  | 0 => b
  | k + 1 => vs.getD k b
def idxP (d : Dk) (n : Nat) : Nat := ((List.range n).filter fun j => !(d.wt.getD j []).isEmpty).length
def cutB (d : Dk) (picks : List Int) (n : Nat) : List UInt8 := pickB (d.l.getD n []) (d.wt.getD n []) (picks.getD (idxP d n) 0)
def cutD (d : Dk) (picks : List Int) : Dk := ⟨(List.range d.l.length).map (cutB d picks), List.replicate d.l.length [], true, d.wr, d.arm, d.picks⟩
theorem pickB_nil (b : List UInt8) (p : Int) : pickB b [] p = b := by
  unfold pickB
  rw [show p % ((([] : List (List UInt8)).length : Int) + 1) = 0 by simp]
  rfl
/-- Blocks of which lf holds are as they were, the others are f. -/
def dG (d : Dk) (f : Nat → List UInt8) (lf : Nat → Bool) : Dk := ⟨(List.range d.l.length).map (fun n => if lf n then d.l.getD n [] else f n), (List.range d.l.length).map (fun n => if lf n then d.wt.getD n [] else []), true, d.wr, d.arm, d.picks⟩
theorem dG_step (d : Dk) (f : Nat → List UInt8) (lf : Nat → Bool) (k : Nat) : (⟨(dG d f lf).l.set k (f k), (dG d f lf).wt.set k [], true, d.wr, d.arm, d.picks⟩ : Dk) = dG d f (fun j => lf j && !(j == k)) := by
  unfold dG
  congr 1
  · refine map_range_set _ _ _ _ _ (by simp) (fun j hj => ?_)
    have : (j == k) = false := beq_eq_false_iff_ne.2 hj
    simp [this]
  · refine map_range_set _ _ _ _ _ (by simp) (fun j hj => ?_)
    have : (j == k) = false := beq_eq_false_iff_ne.2 hj
    simp [this]
theorem dG_len (d : Dk) (f : Nat → List UInt8) (lf : Nat → Bool) : (dG d f lf).l.length = d.l.length := by simp [dG]
theorem dG_start (d : Dk) (f : Nat → List UInt8) (hw : d.wt.length = d.l.length) : dG d f (fun _ => true) = ⟨d.l, d.wt, true, d.wr, d.arm, d.picks⟩ := by
  unfold dG
  simp only [if_true]
  rw [list_of_getD, ← hw, list_of_getD]
theorem dG_end (d : Dk) (picks : List Int) (lf : Nat → Bool) (h : ∀ k, k < d.l.length → lf k = true → d.wt.getD k [] = []) : dG d (cutB d picks) lf = cutD d picks := by
  unfold dG cutD
  congr 1
  · refine List.map_congr_left (fun n hn => ?_)
    split
    · rename_i hl
      unfold cutB
      rw [h n (List.mem_range.1 hn) hl, pickB_nil]
    · rfl
  · rw [List.map_congr_left (g := fun _ => []) (fun n hn => ?_)]
    · rw [List.map_const', List.length_range]
    · split
      · exact h n (List.mem_range.1 hn) (by assumption)
      · rfl
def ksP (N : Nat) (mf : Nat → Option Value) : List Nat := (List.range N).filter fun k => (mf k).isSome
theorem ksP_nodup (N : Nat) (mf : Nat → Option Value) : (ksP N mf).Nodup := List.Pairwise.filter _ List.nodup_range
theorem contains_snoc (l : List Nat) (x j : Nat) : (l ++ [x]).contains j = (l.contains j || (j == x)) := by
  rw [Bool.eq_iff_iff]
  simp
theorem ks_lf {ks : List Nat} (hn : ks.Nodup) {i : Nat} (hi : i < ks.length) : (fun j => !(ks.take (i + 1)).contains j) = fun j => (!(ks.take i).contains j) && !(j == ks[i]) := by
  funext j
  rw [List.take_succ_eq_append_getElem hi, contains_snoc, Bool.not_or]
theorem ks_new {ks : List Nat} (hn : ks.Nodup) {i : Nat} (hi : i < ks.length) : (!(ks.take i).contains ks[i]) = true := by
  have : ks[i] ∉ ks.take i := by
    intro h
    have h1 : (ks.take i ++ ks.drop i).Nodup := by rw [List.take_append_drop]; exact hn
    rw [List.drop_eq_getElem_cons hi] at h1
    exact (List.nodup_append.1 h1).2.2 _ h _ List.mem_cons_self rfl
  simp [List.contains_eq_mem, this]
theorem filter_idx (p : Nat → Bool) : ∀ (N i : Nat) (hi : i < ((List.range N).filter p).length), ((List.range (((List.range N).filter p)[i])).filter p).length = i
  | 0, i, hi => by simp at hi
  | N + 1, i, hi => by
    have e : (List.range (N + 1)).filter p = (List.range N).filter p ++ (if p N then [N] else []) := by
      rw [List.range_succ, List.filter_append]
      congr 1
      simp [List.filter_cons]
    rcases Nat.lt_or_ge i ((List.range N).filter p).length with h | h
    · have h2 : ((List.range (N + 1)).filter p)[i] = ((List.range N).filter p)[i] := by
        simp only [e]
        rw [List.getElem_append_left h]
      rw [h2]
      exact filter_idx p N i h
    · have hl : ((List.range (N + 1)).filter p).length = ((List.range N).filter p).length + (if p N then [N] else []).length := by rw [e, List.length_append]
      cases hp : p N
      · rw [hp] at hl
        simp at hl
        omega
      · rw [hp] at hl
        simp at hl
        have hi2 : i = ((List.range N).filter p).length := by omega
        have h2 : ((List.range (N + 1)).filter p)[i] = N := by
          simp only [e, hp, if_true]
          rw [List.getElem_append_right h]
          simp [hi2]
        rw [h2, hi2]
theorem ks_idx {w : World} {g gl cl mb : Nat} {pk : Value} {lv : List Value} {mf : Nat → Option Value} {d : Dk} (h : Dsk F w g gl cl mb pk lv mf d) {i : Nat} (hi : i < (ksP d.l.length mf).length) : idxP d (ksP d.l.length mf)[i] = i := by
  have hk : (ksP d.l.length mf)[i] < d.l.length := List.mem_range.1 (List.mem_filter.1 (List.getElem_mem hi)).1
  have h1 := filter_idx (fun k => (mf k).isSome) d.l.length i hi
  unfold idxP
  refine Eq.trans ?_ h1
  congr 1
  refine List.filter_congr (fun j hj => ?_)
  have hj2 : j < d.wt.length := by have := List.mem_range.1 hj; rw [h.wtl]; exact Nat.lt_trans this hk
  rcases h.ver j _ (getD_lt hj2 (z := [])) with ⟨h2, h3⟩ | ⟨h2, b, c, us, h3, _⟩
  · rw [h2, h3]; rfl
  · rw [h3]
    cases hh : d.wt.getD j [] with
    | nil => exact absurd hh h2
    | cons a r => rfl
theorem pick_pos {p : Int} {m K : Nat} (h : Int.tmod p ((m : Int) + 1) = K) (hK : K ≤ m) : p % ((m : Int) + 1) = K := by
  have h1 := Int.mul_tdiv_add_tmod p ((m : Int) + 1)
  rw [h] at h1
  rw [← h1, Int.mul_add_emod_self_left]
  exact Int.emod_eq_of_lt (by omega) (by omega)
theorem pick_neg {p : Int} {m K : Nat} (h : Int.tmod p ((m : Int) + 1) = -(K : Int)) (hK : K ≤ m) (h0 : 0 < K) : p % ((m : Int) + 1) = ((m + 1 - K : Nat) : Int) := by
  have h1 := Int.mul_tdiv_add_tmod p ((m : Int) + 1)
  rw [h] at h1
  have e : p = ((m + 1 - K : Nat) : Int) + ((m : Int) + 1) * (Int.tdiv p ((m : Int) + 1) - 1) := by
    rw [Int.mul_sub, Int.mul_one]
    omega
  rw [e, Int.add_mul_emod_self_left]
  exact Int.emod_eq_of_lt (by omega) (by omega)
end Go.Proofs.Ytefbmbfhhhjgkaa
