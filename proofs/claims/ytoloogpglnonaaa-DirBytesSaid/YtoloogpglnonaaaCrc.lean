/- Plain laws of the sum: no program here. -/
import Derived.Test.YtoloogpglnonaaaSeal
import Derived.Test.YtoloogpglnonaaaBak
namespace Go.Proofs.Ytoloogpglnonaaa
open Go.RowKit
def polyN : Nat := 3988292384
def bitS (s : Nat) : Nat := if s % 2 = 1 then (s / 2) ^^^ polyN else s / 2
theorem xor_rc {a b c : Nat} (h : a ^^^ c = b ^^^ c) : a = b := by
  have h1 := congrArg (· ^^^ c) h
  simpa [Nat.xor_assoc] using h1
theorem xor_lc {a b c : Nat} (h : c ^^^ a = c ^^^ b) : a = b := xor_rc (c := c) (by rw [Nat.xor_comm a, Nat.xor_comm b, h])
theorem xor_half (x y : Nat) : (x ^^^ y) / 2 = x / 2 ^^^ y / 2 := by
  have := Nat.shiftRight_xor_distrib (a := x) (b := y) (i := 1)
  simpa [Nat.shiftRight_eq_div_pow] using this
theorem xor_mod2 (x y : Nat) : (x ^^^ y) % 2 = (x % 2 + y % 2) % 2 := by
  have h1 : x % 2 = 0 ∨ x % 2 = 1 := by omega
  have h2 : y % 2 = 0 ∨ y % 2 = 1 := by omega
  have h3 : (x ^^^ y) % 2 = 0 ∨ (x ^^^ y) % 2 = 1 := by omega
  have h : (x ^^^ y).testBit 0 = (x.testBit 0 ^^ y.testBit 0) := Nat.testBit_xor x y 0
  rw [Nat.testBit_zero, Nat.testBit_zero, Nat.testBit_zero] at h
  rcases h1 with h1 | h1 <;> rcases h2 with h2 | h2 <;> rcases h3 with h3 | h3 <;> rw [h1, h2, h3] at h <;> rw [h1, h2, h3] <;> first | rfl | (simp at h)
theorem bitS_xor (x y : Nat) : bitS (x ^^^ y) = bitS x ^^^ bitS y := by
  have h1 : x % 2 = 0 ∨ x % 2 = 1 := by omega
  have h2 : y % 2 = 0 ∨ y % 2 = 1 := by omega
  unfold bitS
  rw [xor_mod2, xor_half]
  rcases h1 with h1 | h1 <;> rcases h2 with h2 | h2 <;> rw [h1, h2] <;> simp
  · rw [Nat.xor_assoc]
  · rw [Nat.xor_assoc, Nat.xor_assoc, Nat.xor_comm (y / 2)]
  · rw [Nat.xor_assoc, ← Nat.xor_assoc polyN, Nat.xor_comm polyN, Nat.xor_assoc (y / 2), Nat.xor_self, Nat.xor_zero]
theorem bitS_even (a : Nat) : bitS (2 * a) = a := by
  unfold bitS
  rw [if_neg (by omega)]
  omega
theorem bit4_small : ∀ r : _root_.Fin 16, bitS (bitS (bitS (bitS r.val))) = halfT.getD r.val 0 := by decide
theorem add_xor16 (a r : Nat) (h : r < 16) : 16 * a + r = (16 * a) ^^^ r := by
  have h1 := Nat.two_pow_add_eq_or_of_lt (i := 4) (b := r) (by omega) a
  rw [show (2 : Nat) ^ 4 = 16 from rfl] at h1
  rw [h1]
  apply Nat.eq_of_testBit_eq
  intro i
  rw [Nat.testBit_or, Nat.testBit_xor]
  rw [show 16 * a = 2 ^ 4 * a from rfl, Nat.testBit_two_pow_mul]
  by_cases hi : 4 ≤ i
  · have : r.testBit i = false := Nat.testBit_lt_two_pow (Nat.lt_of_lt_of_le (show r < 2 ^ 4 from h) (Nat.pow_le_pow_right (by decide) hi))
    rw [this]
    simp
  · simp [hi]
theorem bit4 (s : Nat) : bitS (bitS (bitS (bitS s))) = nib s := by
  have hs : s = (16 * (s / 16)) ^^^ (s % 16) := by rw [← add_xor16 _ _ (by omega)]; omega
  have e := bit4_small ⟨s % 16, by omega⟩
  simp only at e
  generalize s / 16 = a at *
  generalize hr : s % 16 = r at *
  unfold nib
  rw [hs]
  have ha : ((16 * a) ^^^ r) / 16 = a ∧ ((16 * a) ^^^ r) % 16 = r := by
    rw [← hs]
    constructor
    · have : s = 16 * a + r := by rw [hs, ← add_xor16 a r (by omega)]
      omega
    · exact hr
  rw [ha.1, ha.2]
  rw [bitS_xor, bitS_xor, bitS_xor, bitS_xor, e]
  rw [show 16 * a = 2 * (2 * (2 * (2 * a))) by omega, bitS_even, bitS_even, bitS_even, bitS_even]
def bitN : Nat → Nat → Nat
  | 0, s => s
  | n + 1, s => bitS (bitN n s)
theorem bitN8 (s : Nat) (c : UInt8) : bitN 8 (s ^^^ c.toNat) = crcB s c := by
  show bitS (bitS (bitS (bitS (bitS (bitS (bitS (bitS _))))))) = _
  rw [bit4, bit4]
  rfl
theorem bitS_lt (s : Nat) (h : s < 4294967296) : bitS s < 4294967296 := by
  unfold bitS
  split
  · exact Nat.xor_lt_two_pow (n := 32) (by omega) (by decide)
  · omega
theorem bitN_lt (n s : Nat) (h : s < 4294967296) : bitN n s < 4294967296 := by
  induction n with
  | zero => exact h
  | succ n ih => exact bitS_lt _ ih

theorem top_inj : ∀ a b : _root_.Fin 16, halfT.getD a.val 0 / 268435456 = halfT.getD b.val 0 / 268435456 → a = b := by decide
theorem xor_div28 (x y : Nat) : (x ^^^ y) / 268435456 = x / 268435456 ^^^ y / 268435456 := by
  have := Nat.shiftRight_xor_distrib (a := x) (b := y) (i := 28)
  simpa [Nat.shiftRight_eq_div_pow] using this
theorem nib_top (s : Nat) (h : s < 4294967296) : nib s / 268435456 = halfT.getD (s % 16) 0 / 268435456 := by
  unfold nib
  rw [xor_div28, show s / 16 / 268435456 = 0 by omega, Nat.zero_xor]
theorem nib_inj {a b : Nat} (ha : a < 4294967296) (hb : b < 4294967296) (h : nib a = nib b) : a = b := by
  have h1 : halfT.getD (a % 16) 0 / 268435456 = halfT.getD (b % 16) 0 / 268435456 := by rw [← nib_top a ha, ← nib_top b hb, h]
  have h2 := top_inj ⟨a % 16, by omega⟩ ⟨b % 16, by omega⟩ h1
  have h3 : a % 16 = b % 16 := by injection h2
  unfold nib at h
  rw [h3] at h
  have h4 := xor_rc h
  omega
theorem crcB_inj_s {a b : Nat} {c : UInt8} (ha : a < 4294967296) (hb : b < 4294967296) (h : crcB a c = crcB b c) : a = b := by
  unfold crcB at h
  have h1 := nib_inj (nib_lt _ (xor8_lt a c ha)) (nib_lt _ (xor8_lt b c hb)) h
  have h2 := nib_inj (xor8_lt a c ha) (xor8_lt b c hb) h1
  exact xor_rc h2
theorem crcB_inj_c {s : Nat} {c d : UInt8} (hs : s < 4294967296) (h : crcB s c = crcB s d) : c = d := by
  unfold crcB at h
  have h1 := nib_inj (nib_lt _ (xor8_lt s c hs)) (nib_lt _ (xor8_lt s d hs)) h
  have h2 := nib_inj (xor8_lt s c hs) (xor8_lt s d hs) h1
  have h3 := xor_lc h2
  exact UInt8.toNat_inj.1 h3
theorem crcS_inj (l : List UInt8) : ∀ {a b : Nat}, a < 4294967296 → b < 4294967296 → crcS a l = crcS b l → a = b := by
  induction l with
  | nil => exact fun _ _ h => h
  | cons c l ih => exact fun ha hb h => crcB_inj_s ha hb (ih (crcB_lt _ c ha) (crcB_lt _ c hb) h)
theorem crcS_set (l : List UInt8) : ∀ {s : Nat} (k : Nat) (h : k < l.length) (d : UInt8), s < 4294967296 → l[k] ≠ d → crcS s (l.set k d) ≠ crcS s l := by
  induction l with
  | nil => intro s k h; simp at h
  | cons c l ih =>
    intro s k h d hs hne
    cases k with
    | zero =>
      intro e
      exact hne (crcB_inj_c hs (crcS_inj l (crcB_lt _ d hs) (crcB_lt _ c hs) e)).symm
    | succ k => exact ih k (by simpa using h) d (crcB_lt _ c hs) (by simpa using hne)
theorem crcP_lt (l : List UInt8) : crcP l < 4294967296 := by unfold crcP; omega
theorem crcP_set (l : List UInt8) (k : Nat) (h : k < l.length) (d : UInt8) (hne : l[k] ≠ d) : crcP (l.set k d) ≠ crcP l := by
  have h1 := crcS_set l (s := 4294967295) k h d (by omega) hne
  have h2 := crcS_lt l 4294967295 (by omega)
  have h3 := crcS_lt (l.set k d) 4294967295 (by omega)
  unfold crcP
  omega
theorem numP_inj : ∀ {a b : List UInt8}, a.length = b.length → numP a = numP b → a = b
  | [], [], _, _ => rfl
  | x :: a, y :: b, hl, h => by
    have hx := x.toNat_lt
    have hy := y.toNat_lt
    simp only [numP] at h
    have h1 : x.toNat = y.toNat := by omega
    rw [UInt8.toNat_inj.1 h1, numP_inj (a := a) (b := b) (by simpa using hl) (by omega)]
  | [], _ :: _, h, _ => by simp at h
  | _ :: _, [], h, _ => by simp at h
def sealP (bs : List UInt8) : List UInt8 := bs ++ le32 (crcP bs)
theorem le32_len (n : Int) : (le32 n).length = 4 := rfl
theorem numP_le32 (n : Nat) (h : n < 4294967296) : numP (le32 n) = n := by
  have := num4 (n : Int)
  omega
theorem sealP_len (bs : List UInt8) : (sealP bs).length = bs.length + 4 := by simp [sealP, le32]
theorem open_seal (bs : List UInt8) : openP (sealP bs) = (bs, 0) := by
  unfold openP
  rw [if_neg (by rw [sealP_len]; omega), sealP_len, show bs.length + 4 - 4 = bs.length by omega]
  unfold sealP
  rw [List.take_left' rfl, List.drop_left' rfl, numP_le32 _ (crcP_lt _), if_pos rfl]
/-- The document's way to open: the same. -/
theorem open_ref (bs : List UInt8) (h : 4 ≤ bs.length) : openP bs = if sealP (bs.take (bs.length - 4)) = bs then (bs.take (bs.length - 4), 0) else ([], 4) := by
  unfold openP
  rw [if_neg (by omega)]
  have hl : (bs.drop (bs.length - 4)).length = 4 := by rw [List.length_drop]; omega
  by_cases hc : numP (bs.drop (bs.length - 4)) = crcP (bs.take (bs.length - 4))
  · rw [if_pos hc, if_pos]
    unfold sealP
    have h2 : le32 (crcP (bs.take (bs.length - 4))) = bs.drop (bs.length - 4) := numP_inj (by rw [hl, le32_len]) (by rw [numP_le32 _ (crcP_lt _), hc])
    rw [h2, List.take_append_drop]
  · rw [if_neg hc, if_neg]
    intro e
    apply hc
    have h2 : bs.drop (bs.length - 4) = le32 (crcP (bs.take (bs.length - 4))) := by
      have h3 : (sealP (bs.take (bs.length - 4))).drop (bs.length - 4) = le32 (crcP (bs.take (bs.length - 4))) := by
        unfold sealP
        exact List.drop_left' (by rw [List.length_take]; omega)
      rw [← h3, e]
    rw [h2, numP_le32 _ (crcP_lt _)]
/-- One byte changed: refused. -/
theorem open_set (bs : List UInt8) (k : Nat) (h : k < (sealP bs).length) (d : UInt8) (hne : (sealP bs)[k] ≠ d) : openP ((sealP bs).set k d) = ([], 4) := by
  have hL := sealP_len bs
  unfold openP
  rw [if_neg (by rw [List.length_set, hL]; omega), List.length_set, hL, show bs.length + 4 - 4 = bs.length by omega, if_neg]
  by_cases hk : k < bs.length
  · have e1 : ((sealP bs).set k d).take bs.length = bs.set k d := by
      rw [List.take_set]
      unfold sealP
      rw [List.take_left' rfl]
    have e2 : ((sealP bs).set k d).drop bs.length = le32 (crcP bs) := by
      rw [List.drop_set_of_lt hk]
      unfold sealP
      exact List.drop_left' rfl
    rw [e1, e2, numP_le32 _ (crcP_lt _)]
    have hg : (sealP bs)[k] = bs[k] := List.getElem_append_left hk
    exact Ne.symm (crcP_set bs k hk d (by rw [← hg]; exact hne))
  · have e1 : ((sealP bs).set k d).take bs.length = bs := by
      rw [List.take_set_of_le (by omega)]
      unfold sealP
      exact List.take_left' rfl
    have e2 : ((sealP bs).set k d).drop bs.length = (le32 (crcP bs)).set (k - bs.length) d := by
      rw [List.drop_set, if_neg hk]
      unfold sealP
      rw [List.drop_left' rfl]
    rw [e1, e2]
    intro e
    have h5 : (le32 (crcP bs)).set (k - bs.length) d = le32 (crcP bs) := numP_inj (by simp) (by rw [e, numP_le32 _ (crcP_lt _)])
    have hk2 : k - bs.length < (le32 (crcP bs)).length := by rw [le32_len]; omega
    have h6 : (sealP bs)[k] = (le32 (crcP bs))[k - bs.length] := List.getElem_append_right (by omega)
    apply hne
    rw [h6]
    have h7 : ((le32 (crcP bs)).set (k - bs.length) d)[k - bs.length]'(by simpa using hk2) = d := by simp
    rw [← h7]
    congr 1
    rw [h5]
end Go.Proofs.Ytoloogpglnonaaa
