/- The log's laws: helpers. -/
import Derived.Test.YtlfbfmeppcicnaaWlb
namespace Go.Proofs.Ytlfbfmeppcicnaa
open Go.RowKit
theorem ofInt64_emod (n : Int) : ((BitVec.ofInt 64 n).toNat : Int) = n % 18446744073709551616 := by
  rw [BitVec.toNat_ofInt]
  omega
theorem and_mask (n : Int) (j : Nat) (hj : j ≤ 32) : bits .and .i64 n ((2 ^ j - 1 : Nat) : Int) = n % ((2 ^ j : Nat) : Int) := by
  have hm : 2 ^ j ≤ 4294967296 := Nat.pow_le_pow_right (by omega) hj
  have hp : 0 < 2 ^ j := Nat.two_pow_pos j
  show IntKind.i64.wrap ((BitVec.ofInt 64 n &&& BitVec.ofInt 64 ((2 ^ j - 1 : Nat) : Int)).toNat : Int) = _
  rw [BitVec.toNat_and, ofInt64_nat _ (by omega), Nat.and_two_pow_sub_one_eq_mod]
  have h1 := ofInt64_emod n
  have h2 : (((BitVec.ofInt 64 n).toNat % 2 ^ j : Nat) : Int) = n % ((2 ^ j : Nat) : Int) := by
    rw [Int.natCast_emod, h1]
    exact Int.emod_emod_of_dvd n (by
      have : (18446744073709551616 : Int) = ((2 ^ 64 : Nat) : Int) := by decide
      rw [this]
      exact Int.natCast_dvd_natCast.2 (Nat.pow_dvd_pow 2 (by omega)))
  rw [h2, IntKind.wrap_i64]
  have h3 : n % ((2 ^ j : Nat) : Int) < ((2 ^ j : Nat) : Int) := Int.emod_lt_of_pos _ (by omega)
  have h4 : 0 ≤ n % ((2 ^ j : Nat) : Int) := Int.emod_nonneg _ (by omega)
  omega
theorem wf64K {n : Int} (h : (Lit.int .i64 n).wf = true) : -9223372036854775808 ≤ n ∧ n ≤ 9223372036854775807 := by
  simp [Lit.wf, IntKind.min, IntKind.max, IntKind.signed, IntKind.bits] at h
  omega
theorem Rd.intAtK {w : World} {A : Option Addr} {n c : Nat} {us : List Int} (h : Rd w (.slice A n c) (us.map (Value.int .i64))) {k : Nat} (hk : k < us.length) : ∃ ad, A = some ad ∧ w.cell? (ad.add k) = some (.int .i64 us[k]) := by
  obtain ⟨ad, c', e, hc⟩ := h.cell (j := k) (by simpa using hk)
  injection e with e1 _ _
  exact ⟨ad, e1, by rw [hc]; simp⟩
theorem fullP_nil : fullP [] = zblk := by
  unfold fullP zblk
  rw [List.map_congr_left (g := fun _ => (0 : UInt8)) (fun i _ => by simp), List.map_const', List.length_range]
theorem Full0 (w : World) : Calls Try.prog 19 #[.slice none 0 0] w (fun e w' => ∃ A c, e = .returned (.slice A 512 c) ∧ Own8 w' (.slice A 512 c) zblk ∧ Below w.heap.size w w') := by
  refine (Full_calls w (.slice none 0 0) [] (Rd.nil _ _ _) (by simp)).mono ?_
  rintro e w' ⟨r, rfl, ho, hB, _⟩
  obtain ⟨A, c, e⟩ := ho.shape
  rw [fullP_nil] at ho
  rw [fullP_len] at e
  subst e
  exact ⟨A, c, rfl, ho, hB⟩
theorem wf8B {n : Int} (h : (Lit.int .u8 n).wf = true) : ∃ b : UInt8, n = (b.toNat : Int) := by
  simp [Lit.wf, IntKind.min, IntKind.max, IntKind.signed, IntKind.bits] at h
  refine ⟨UInt8.ofNat n.toNat, ?_⟩
  have : (UInt8.ofNat n.toNat).toNat = n.toNat % 256 := by simp
  rw [this]
  omega
theorem FullTwo (w : World) (a b : UInt8) : Calls Try.prog 19 #[.slice (some ⟨w.heap.size, 0, none⟩) 2 2] (w.alloc (.cells #[.int .u8 (a.toNat : Int), .int .u8 (b.toNat : Int)] 5)) (fun e w' => ∃ A c, e = .returned (.slice A 512 c) ∧ Own8 w' (.slice A 512 c) (fullP [a, b]) ∧ Below w.heap.size w w') := by
  refine (FullB _ [a, b] _ (rd_new w (bvs [a, b]) 5 2 rfl) (by simp)).mono ?_
  rintro e w' ⟨A, c, rfl, ho, hB⟩
  exact ⟨A, c, rfl, ho, ((Below.refl w.heap.size w).alloc (Nat.le_refl _) _).trans (hB.mono (by simp))⟩
theorem FullI (w : World) (b : UInt8) : Calls Try.prog 19 #[.slice (some ⟨w.heap.size, 0, none⟩) 1 1] (w.alloc (.cells #[.int .u8 (b.toNat : Int)] 5)) (fun e w' => ∃ A c, e = .returned (.slice A 512 c) ∧ Own8 w' (.slice A 512 c) (fullP [b]) ∧ Below w.heap.size w w') := FullM w b (0, 0)
theorem u8_nat {i : Nat} (h : i < 256) : ((UInt8.ofNat i).toNat : Int) = i := by
  rw [UInt8.toNat_ofNat']
  omega
theorem wrap_u8 {i : Nat} (h : i < 256) : IntKind.u8.wrap (i : Int) = i := by
  show ((i : Int) % 256) = i
  omega
/-- The transaction has written just the blocks below i. -/
def TD (i : Nat) (t : Tk) : Prop := t.ov = false ∧ ∀ k, (t.m k).isSome = decide (k < i)
theorem TD.len {i : Nat} {t : Tk} (h : TD i t) (hi : i ≤ 70) : (ksW 70 t.m).length = i := by
  unfold ksW
  rw [show (fun k => (t.m k).isSome) = fun k => decide (k < i) from funext h.2]
  have : (List.range 70).filter (fun k => decide (k < i)) = List.range i := by
    have h2 := List.range_add (n := i) (m := 70 - i)
    rw [show i + (70 - i) = 70 by omega] at h2
    rw [h2, List.filter_append, List.filter_eq_self.2 (by simp), List.filter_eq_nil_iff.2 (by simp), List.append_nil]
  rw [this, List.length_range]
theorem TD.new : TD 0 ⟨fun _ => none, false⟩ := ⟨rfl, fun k => by simp⟩
theorem TD.put {i : Nat} {t : Tk} (h : TD i t) (hi : i < 63) {b : List UInt8} (hb : b.length = 512) : (twriteP 70 t (i : Int) b).1 = 0 ∧ TD (i + 1) (twriteP 70 t (i : Int) b).2 := by
  have e : twriteE 70 t (i : Int) b = 0 := by
    unfold twriteE
    rw [if_neg (by omega), if_neg (by simp [h.1]), if_neg]
    rintro ⟨_, h2⟩
    rw [h.len (by omega)] at h2
    omega
  unfold twriteP
  rw [e]
  refine ⟨rfl, h.1, fun k => ?_⟩
  show (if k = Int.toNat (i : Int) then some b else t.m k).isSome = _
  rw [Int.toNat_natCast]
  by_cases e2 : k = i
  · subst e2; rw [if_pos rfl]; simp
  · rw [if_neg e2, h.2]
    congr 1
    simp only [eq_iff_iff]
    omega
theorem TD.again {i : Nat} {t : Tk} (h : TD 63 t) (hi : i < 64) {b : List UInt8} (hb : b.length = 512) : (twriteP 70 t (i : Int) b).1 = (if i < 63 then 0 else 7) ∧ TD 63 (twriteP 70 t (i : Int) b).2 := by
  have hl := h.len (by omega)
  have hfi : fI t.m (i : Int) = t.m i := by unfold fI; rw [if_pos (by omega), Int.toNat_natCast]
  have hi2 := h.2 i
  have e : twriteE 70 t (i : Int) b = if i < 63 then 0 else 7 := by
    unfold twriteE
    rw [if_neg (by omega), if_neg (by simp [h.1]), hl, hfi]
    by_cases h63 : i < 63
    · rw [if_pos h63, if_neg]
      rintro ⟨h2, _⟩
      rw [h2] at hi2
      simp [h63] at hi2
    · have hnone : t.m i = none := by
        cases hm : t.m i with
        | none => rfl
        | some x => rw [hm] at hi2; simp at hi2; omega
      rw [if_neg h63, if_pos ⟨hnone, rfl⟩]
  unfold twriteP
  rw [e]
  refine ⟨rfl, ?_⟩
  by_cases h63 : i < 63
  · rw [if_pos h63, if_pos rfl]
    refine ⟨h.1, fun k => ?_⟩
    show (if k = Int.toNat (i : Int) then some b else t.m k).isSome = _
    rw [Int.toNat_natCast]
    by_cases e2 : k = i
    · subst e2; rw [if_pos rfl]; simp [h63]
    · rw [if_neg e2, h.2]
  · rw [if_neg h63, if_neg (by decide)]
    exact h
end Go.Proofs.Ytlfbfmeppcicnaa
