/- Waiting, Sync. -/
import Derived.Test.YtefbmbfhhhjgkaaBq
namespace Go.Proofs.Ytefbmbfhhhjgkaa
open Go.RowKit
variable {F : Nat → Prop}
def waitP (d : Dk) : Nat := (d.wt.map List.length).sum
def rsum (N : Nat) (f : Nat → Nat) : Nat := ((List.range N).map f).sum
theorem rsum_succ (N : Nat) (f : Nat → Nat) : rsum (N + 1) f = rsum N f + f N := by
  unfold rsum
  rw [List.range_succ, List.map_append, List.sum_append]
  simp
theorem rsum_congr {N : Nat} {f g : Nat → Nat} (h : ∀ j, j < N → g j = f j) : rsum N g = rsum N f := by
  unfold rsum
  rw [List.map_congr_left (fun j hj => h j (List.mem_range.1 hj))]
theorem rsum_point {N k : Nat} {f g : Nat → Nat} (hk : k < N) (h : ∀ j, j ≠ k → g j = f j) : rsum N g + f k = rsum N f + g k := by
  induction N with
  | zero => omega
  | succ N ih =>
    rw [rsum_succ, rsum_succ]
    by_cases e : k = N
    · subst e
      rw [rsum_congr (fun j hj => h j (by omega))]
      omega
    · have := ih (by omega)
      rw [h N (fun x => e x.symm)]
      omega
theorem waitP_rsum (d : Dk) : waitP d = rsum d.wt.length (fun k => (d.wt.getD k []).length) := by
  unfold waitP rsum
  congr 1
  apply List.ext_getElem?
  intro i
  rcases Nat.lt_or_ge i d.wt.length with h | h
  · rw [List.getElem?_map, List.getElem?_map, List.getElem?_range h, List.getElem?_eq_getElem h]
    simp [List.getD_eq_getElem?_getD, List.getElem?_eq_getElem h]
  · rw [List.getElem?_eq_none (by simpa using h), List.getElem?_eq_none (by simpa using h)]
theorem le_rsum {N k : Nat} (f : Nat → Nat) (hk : k < N) : f k ≤ rsum N f := by
  have := rsum_point (g := fun j => if j = k then 0 else f j) hk (fun j hj => if_neg hj)
  rw [if_pos rfl] at this
  omega
theorem waitP_le (d : Dk) {vs : List (List UInt8)} (h : vs ∈ d.wt) : vs.length ≤ waitP d := by
  obtain ⟨k, hk, rfl⟩ := List.getElem_of_mem h
  have := le_rsum (fun k => (d.wt.getD k []).length) hk
  rw [← waitP_rsum] at this
  simpa [List.getD_eq_getElem?_getD, List.getElem?_eq_getElem hk] using this
def wsum (d : Dk) (lf : Nat → Bool) : Nat := rsum d.wt.length (fun k => if lf k then 0 else (d.wt.getD k []).length)
theorem wsum_le (d : Dk) (lf : Nat → Bool) : wsum d lf ≤ waitP d := by
  rw [waitP_rsum]
  unfold wsum rsum
  generalize List.range d.wt.length = l
  induction l with
  | nil => simp
  | cons a r ih =>
    simp only [List.map_cons, List.sum_cons]
    split <;> omega
theorem wsum_step (d : Dk) (lf : Nat → Bool) {k : Nat} (hk : k < d.wt.length) (hl : lf k = true) : wsum d (fun j => lf j && !(j == k)) = wsum d lf + (d.wt.getD k []).length := by
  have := rsum_point (N := d.wt.length) (k := k) (f := fun k => if lf k then 0 else (d.wt.getD k []).length) (g := fun j => if (lf j && !(j == k)) then 0 else (d.wt.getD j []).length) hk (fun j hj => by
    have : (j == k) = false := beq_eq_false_iff_ne.2 hj
    simp only [this, Bool.not_false, Bool.and_true])
  simp only [hl, if_true, beq_self_eq_true, Bool.not_true, Bool.and_false, Bool.false_eq_true, if_false, Nat.add_zero] at this
  exact this
theorem wsum_none (d : Dk) (lf : Nat → Bool) (h : ∀ k, lf k = false) : wsum d lf = waitP d := by
  rw [waitP_rsum]
  exact rsum_congr (fun j _ => by simp [h])
theorem wsum_start {w : World} {g gl cl mb : Nat} {pk : Value} {lv : List Value} {mf : Nat → Option Value} {d : Dk} (h : Dsk F w g gl cl mb pk lv mf d) : wsum d (fun k => (mf k).isSome) = 0 := by
  unfold wsum
  rw [rsum_congr (f := fun _ => 0) (fun j hj => ?_)]
  · unfold rsum
    rw [List.map_const', List.length_range, List.sum_replicate_nat, Nat.mul_zero]
  · rcases h.ver j _ (List.getElem?_eq_getElem hj) with ⟨h1, h2⟩ | ⟨h1, b, c, us, h2, _⟩
    · have e : d.wt.getD j [] = d.wt[j] := by rw [List.getD_eq_getElem?_getD, List.getElem?_eq_getElem hj]; rfl
      show (if (mf j).isSome = true then 0 else (d.wt.getD j []).length) = 0
      rw [h2, e, h1]
      rfl
    · show (if (mf j).isSome = true then 0 else (d.wt.getD j []).length) = 0
      rw [h2]
      rfl
theorem mf_wt {w : World} {g gl cl mb : Nat} {pk : Value} {lv : List Value} {mf : Nat → Option Value} {d : Dk} (h : Dsk F w g gl cl mb pk lv mf d) {k : Nat} {v : Value} (hv : mf k = some v) : ∃ b c, v = .slice (some ⟨b, 0, none⟩) (d.wt.getD k []).length c ∧ k < d.wt.length ∧ d.wt.getD k [] ≠ [] := by
  obtain ⟨b, c, us, vs, hw, hne, rfl, ho, hgl, _⟩ := h.mfat hv
  have e : d.wt.getD k [] = vs := by rw [List.getD_eq_getElem?_getD, hw]; rfl
  rw [e]
  exact ⟨b, c, rfl, (List.getElem?_eq_some_iff.1 hw).1, hne⟩
end Go.Proofs.Ytefbmbfhhhjgkaa
