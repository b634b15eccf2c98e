/- Plain laws of DirBits: bytes of slots with one bit turned. -/
import Derived.Test.YtoloogpglnonaaaDrd
import Derived.Test.YtoloogpglnonaaaDgr
namespace Go.Proofs.Ytoloogpglnonaaa
open Go.RowKit
theorem flat_chk {α : Type} (f : α → List UInt8) (hf : ∀ a, (f a).length = 64) : ∀ (l : List α) (q : Nat) (h : q < l.length), chk (l.flatMap f) q = f l[q]
  | a :: r, 0, _ => by
    unfold chk
    rw [Nat.mul_zero, List.drop_zero, List.flatMap_cons, List.take_append_of_le_length (by rw [hf]; exact Nat.le_refl _), List.take_of_length_le (by rw [hf]; exact Nat.le_refl _)]
    rfl
  | a :: r, q + 1, h => by
    have ih := flat_chk f hf r q (by simpa using h)
    unfold chk at ih ⊢
    rw [List.flatMap_cons, show 64 * (q + 1) = (f a).length + 64 * q by rw [hf]; omega, ← List.drop_drop, List.drop_left]
    exact ih
theorem chk_set (bs : List UInt8) (j : Nat) (x : UInt8) : chk (bs.set j x) (j / 64) = (chk bs (j / 64)).set (j % 64) x := by
  unfold chk
  rw [List.drop_set, if_neg (by omega), List.take_set, show j - 64 * (j / 64) = j % 64 by omega]
def padE (n : Nat) : List Ent := List.replicate ((n + 7) / 8 * 8 - n) zeroE
theorem rep_flat (x : Nat) : (List.replicate x zeroE).flatMap slotB = List.replicate (64 * x) 0 := by
  induction x with
  | zero => rfl
  | succ x ih =>
    rw [List.replicate_succ, List.flatMap_cons, ih, show 64 * (x + 1) = 64 + 64 * x by omega, ← List.replicate_append_replicate]
    rfl
theorem dbytes_flat (es : List Ent) : dbytes es = (es ++ padE es.length).flatMap slotB := by
  unfold dbytes slotsB padE padB dblocks
  rw [List.flatMap_append, rep_flat, show 64 * ((es.length + 7) / 8 * 8 - es.length) = (es.length + 7) / 8 * 512 - es.length * 64 by omega]
theorem flat64 {α : Type} (f : α → List UInt8) (hf : ∀ a, (f a).length = 64) (l : List α) : (l.flatMap f).length = 64 * l.length := by
  induction l with
  | nil => rfl
  | cons a r ih => rw [List.flatMap_cons, List.length_append, hf, ih, List.length_cons]; omega
def zfl (p r : Nat) : List UInt8 := (List.replicate 64 (0 : UInt8)).set p (flipB 0 r)
set_option maxRecDepth 100000 in
theorem zfl_bad : (List.range 64).all (fun p => (List.range 8).all fun r => (openP (zfl p r)).2 != 0) = true := by decide +kernel
theorem set_ne {l : List UInt8} {p i : Nat} {x y : UInt8} (hl : l.length = 64) (hi : i ≠ p) (h : l[i]? = some y) (hy : y ≠ 0) : l.set p x ≠ List.replicate 64 0 := fun e => by
  have h1 : (l.set p x)[i]? = some y := by rw [List.getElem?_set_ne (fun e => hi e.symm)]; exact h
  rw [e, List.getElem?_replicate] at h1
  split at h1
  · cases h1; exact hy rfl
  · cases h1
theorem decD_flip (e : Ent) (hn : e.name.length = 3) (h4 : (encE e)[4]? = some 110) {p r : Nat} (hp : p < 64) (hr : r < 8) : (decD ((encE e).set p (flipB ((encE e)[p]'(by rw [encE_len]; exact hp)) r))).2 ≠ 0 := by
  have hl := encE_len e
  have h0 : (encE e)[0]? = some 3 := by
    show some (b8 (e.name.length : Int)) = _
    rw [hn]
    rfl
  have hne := flipB_ne ((encE e)[p]'(by rw [hl]; exact hp)) r hr
  generalize flipB ((encE e)[p]'(by rw [hl]; exact hp)) r = x at *
  have hz : (encE e).set p x ≠ List.replicate 64 0 := by
    by_cases h : p = 0
    · exact set_ne hl (by omega) h4 (by decide)
    · exact set_ne hl (fun e => h e.symm) h0 (by decide)
  have ho := open_set (encEB e) p (by rw [show sealP (encEB e) = encE e from rfl, hl]; exact hp) x hne
  rw [show sealP (encEB e) = encE e from rfl] at ho
  unfold decD
  rw [List.length_set, hl, if_neg (by omega), if_neg (by omega), if_neg hz, ho, if_pos (show (4 : Int) ≠ 0 by decide)]
  show (4 : Int) ≠ 0
  decide
theorem decD_zero {p r : Nat} (hp : p < 64) (hr : r < 8) : (decD (zfl p r)).2 ≠ 0 := by
  have h := zfl_bad
  rw [List.all_eq_true] at h
  have h := h p (List.mem_range.2 hp)
  rw [List.all_eq_true] at h
  have h := h r (List.mem_range.2 hr)
  have h : (openP (zfl p r)).2 ≠ 0 := by simpa using h
  have hz : zfl p r ≠ List.replicate 64 0 := fun e => by
    have h1 : (zfl p r)[p]? = some (flipB 0 r) := by
      unfold zfl
      rw [List.getElem?_set_self (by simpa using hp)]
    rw [e, List.getElem?_replicate, if_pos hp] at h1
    exact flipB_ne 0 r hr (Option.some.inj h1)
  have hl : (zfl p r).length = 64 := by simp [zfl]
  unfold decD
  rw [hl, if_neg (by omega), if_neg (by omega), if_neg hz, if_pos h]
  exact h
theorem readD_some {bs : List UInt8} (h : bs.length % 512 = 0) {q : Nat} (hq : q < bs.length / 64) (hb : (decD (chk bs q)).2 ≠ 0) : (readD bs).1 = [] ∧ (readD bs).2 ≠ 0 := by
  unfold readD
  rw [if_neg (by omega)]
  cases hf : (List.range (bs.length / 64)).find? (fun k => (decD (chk bs k)).2 != 0) with
  | none =>
    have := List.find?_eq_none.1 hf q (List.mem_range.2 hq)
    simp at this
    exact absurd this hb
  | some k =>
    have := List.find?_some hf
    exact ⟨rfl, by simpa using this⟩
theorem dbytes_len2 (es : List Ent) : (dbytes es).length = dblocks es.length := by
  rw [dbytes_flat, flat64 _ slotB_len, List.length_append]
  unfold padE dblocks
  rw [List.length_replicate]
  omega
theorem bits_law (n : Nat) (hn : n ≤ 30) (j r : Nat) (hj : j < (dbytes (genE n)).length) (hr : r < 8) :
    (readD ((dbytes (genE n)).set j (flipB (dbytes (genE n))[j] r))).1 = [] ∧ (readD ((dbytes (genE n)).set j (flipB (dbytes (genE n))[j] r))).2 ≠ 0 := by
  have hlen := dbytes_len2 (genE n)
  have hL : (dbytes (genE n)).length % 512 = 0 := by rw [hlen]; unfold dblocks; omega
  have hf := dbytes_flat (genE n)
  have hq : j / 64 < (genE n ++ padE (genE n).length).length := by
    have h2 := flat64 slotB slotB_len (genE n ++ padE (genE n).length)
    rw [← hf] at h2
    omega
  have hc : chk (dbytes (genE n)) (j / 64) = slotB (genE n ++ padE (genE n).length)[j / 64] := by
    rw [hf]
    exact flat_chk _ slotB_len _ _ hq
  have hx : (dbytes (genE n))[j] = (slotB (genE n ++ padE (genE n).length)[j / 64])[j % 64]'(by rw [slotB_len]; omega) := by
    have h1 : (chk (dbytes (genE n)) (j / 64))[j % 64]? = (dbytes (genE n))[j]? := by
      unfold chk
      rw [List.getElem?_take, if_pos (by omega), List.getElem?_drop, show 64 * (j / 64) + j % 64 = j by omega]
    rw [hc, List.getElem?_eq_getElem hj, List.getElem?_eq_getElem (by rw [slotB_len]; omega)] at h1
    injection h1 with h1
    exact h1.symm
  refine readD_some (by rw [List.length_set]; exact hL) (q := j / 64) (by rw [List.length_set]; omega) ?_
  rw [chk_set, hc, hx]
  rcases Nat.lt_or_ge (j / 64) (genE n).length with h | h
  · simp only [List.getElem_append_left h]
    have he := genE_get n (j / 64) h
    have hs : slotB (genE n)[j / 64] = encE (genE n)[j / 64] := by
      unfold slotB
      rw [if_neg (by rw [he]; exact nameK_ne _)]
    simp only [hs]
    exact decD_flip _ (by rw [he]; rfl) (by rw [he]; rfl) (by omega) hr
  · simp only [List.getElem_append_right h]
    have he : (padE (genE n).length)[j / 64 - (genE n).length]'(by rw [List.length_append] at hq; omega) = zeroE := by simp [padE]
    have hs : slotB zeroE = List.replicate 64 0 := rfl
    simp only [he, hs, List.getElem_replicate]
    exact decD_zero (by omega) hr
end Go.Proofs.Ytoloogpglnonaaa
