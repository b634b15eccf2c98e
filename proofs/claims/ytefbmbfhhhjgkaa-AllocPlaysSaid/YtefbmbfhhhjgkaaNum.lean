/-
  Plain facts on numbers and bytes: no program here.
-/
import Derived.Test.YtefbmbfhhhjgkaaMem
import Derived.Laws.BitsAllLaws
import Derived.Laws.BitsLemmas
import Derived.IntWalk
import GoSem.Claim
namespace Go.Proofs.Ytefbmbfhhhjgkaa
open Go.RowKit

theorem wf64 {n : Int} (h : (Lit.int .i64 n).wf = true) : -9223372036854775808 ≤ n ∧ n ≤ 9223372036854775807 := by
  simp [Lit.wf, IntKind.min, IntKind.max, IntKind.signed, IntKind.bits] at h
  omega
theorem wf8 {n : Int} (h : (Lit.int .u8 n).wf = true) : 0 ≤ n ∧ n ≤ 255 := by
  simp [Lit.wf, IntKind.min, IntKind.max, IntKind.signed, IntKind.bits] at h
  omega
theorem ofInt64_nat (a : Nat) (ha : a < 9223372036854775808) : (BitVec.ofInt 64 (a : Int)).toNat = a := by
  rw [BitVec.ofInt_natCast, BitVec.toNat_ofNat]
  exact Nat.mod_eq_of_lt (by omega)
theorem bits_or_i64 (a b : Nat) (ha : a < 9223372036854775808) (hb : b < 9223372036854775808) : bits .or .i64 (a : Int) (b : Int) = ((a ||| b : Nat) : Int) := by
  have hx : a ||| b < 2 ^ 63 := Nat.or_lt_two_pow (by omega) (by omega)
  show IntKind.i64.wrap ((BitVec.ofInt 64 (a : Int) ||| BitVec.ofInt 64 (b : Int)).toNat : Int) = _
  rw [BitVec.toNat_or, ofInt64_nat a ha, ofInt64_nat b hb, IntKind.wrap_i64]
  omega
theorem bits_and_i64 (a b : Nat) (ha : a < 9223372036854775808) (hb : b < 9223372036854775808) : bits .and .i64 (a : Int) (b : Int) = ((a &&& b : Nat) : Int) := by
  have hx : a &&& b < 2 ^ 63 := Nat.and_lt_two_pow _ (by omega)
  show IntKind.i64.wrap ((BitVec.ofInt 64 (a : Int) &&& BitVec.ofInt 64 (b : Int)).toNat : Int) = _
  rw [BitVec.toNat_and, ofInt64_nat a ha, ofInt64_nat b hb, IntKind.wrap_i64]
  omega

theorem ofInt8_nat (a : Nat) (ha : a < 256) : (BitVec.ofInt 8 (a : Int)).toNat = a := by
  rw [BitVec.ofInt_natCast, BitVec.toNat_ofNat]
  exact Nat.mod_eq_of_lt (by omega)
theorem bits_and_u8 (a b : Nat) (ha : a < 256) (hb : b < 256) : bits .and .u8 (a : Int) (b : Int) = ((a &&& b : Nat) : Int) := by
  have hx : a &&& b < 2 ^ 8 := Nat.and_lt_two_pow _ (by omega)
  show IntKind.u8.wrap ((BitVec.ofInt 8 (a : Int) &&& BitVec.ofInt 8 (b : Int)).toNat : Int) = _
  rw [BitVec.toNat_and, ofInt8_nat a ha, ofInt8_nat b hb, IntKind.wrap_u8]
  omega
theorem bits_or_u8 (a b : Nat) (ha : a < 256) (hb : b < 256) : bits .or .u8 (a : Int) (b : Int) = ((a ||| b : Nat) : Int) := by
  have hx : a ||| b < 2 ^ 8 := Nat.or_lt_two_pow (by omega) (by omega)
  show IntKind.u8.wrap ((BitVec.ofInt 8 (a : Int) ||| BitVec.ofInt 8 (b : Int)).toNat : Int) = _
  rw [BitVec.toNat_or, ofInt8_nat a ha, ofInt8_nat b hb, IntKind.wrap_u8]
  omega
theorem bits_xor_u8 (a b : Nat) (ha : a < 256) (hb : b < 256) : bits .xor .u8 (a : Int) (b : Int) = ((a ^^^ b : Nat) : Int) := by
  have hx : a ^^^ b < 2 ^ 8 := Nat.xor_lt_two_pow (by omega) (by omega)
  show IntKind.u8.wrap ((BitVec.ofInt 8 (a : Int) ^^^ BitVec.ofInt 8 (b : Int)).toNat : Int) = _
  rw [BitVec.toNat_xor, ofInt8_nat a ha, ofInt8_nat b hb, IntKind.wrap_u8]
  omega
/-- The number that bytes tell, the lowest first. -/
def numP : List UInt8 → Nat
  | [] => 0
  | b :: r => b.toNat + 256 * numP r
theorem numP_lt (l : List UInt8) : numP l < 256 ^ l.length := by
  induction l with
  | nil => simp [numP]
  | cons b r ih =>
    have hb := b.toNat_lt
    simp only [numP, List.length_cons, Nat.pow_succ]
    omega
theorem numP_append (a b : List UInt8) : numP (a ++ b) = numP a + 256 ^ a.length * numP b := by
  induction a with
  | nil => simp [numP]
  | cons x r ih =>
    simp only [List.cons_append, numP, ih, List.length_cons, Nat.pow_succ, Nat.mul_add, Nat.add_assoc]
    rw [Nat.mul_comm (256 ^ r.length) 256, Nat.mul_assoc]
theorem take_succ8 (l : List UInt8) {k : Nat} (h : k < l.length) : l.take (k + 1) = l.take k ++ [l[k]] := List.take_succ_eq_append_getElem h
theorem or_join (a q n : Nat) (ha : a < 2 ^ n) (hq : 2 ^ n * q < 9223372036854775808) (h : 2 ^ n ≤ 16777216) : bits .or .i64 (a : Int) ((2 ^ n * q : Nat) : Int) = ((a + 2 ^ n * q : Nat) : Int) := by
  rw [bits_or_i64 _ _ (by omega) hq, Nat.or_comm, ← Nat.two_pow_add_eq_or_of_lt ha, Nat.add_comm]
theorem num_step (l : List UInt8) {k : Nat} (h : k < l.length) (hk : k < 4) : bits .or .i64 (numP (l.take k) : Int) (wrap64 (wrap64 (l[k].toNat : Int) * 2 ^ (8 * k))) = (numP (l.take (k + 1)) : Int) := by
  have hb := l[k].toNat_lt
  have hlt := numP_lt (l.take k)
  have hl : (l.take k).length = k := by rw [List.length_take]; omega
  rw [hl] at hlt
  rw [take_succ8 l h, numP_append, hl]
  simp only [numP, Nat.mul_zero, Nat.add_zero]
  generalize l[k].toNat = c at *
  generalize numP (l.take k) = a at *
  have h8 : (256 : Nat) ^ k = 2 ^ (8 * k) := by rw [Nat.pow_mul]
  rw [h8] at hlt ⊢
  have hp : 2 ^ (8 * k) ≤ 16777216 := Nat.le_trans (Nat.pow_le_pow_right (by omega) (show 8 * k ≤ 24 by omega)) (by decide)
  have hw : wrap64 (c : Int) = c := by unfold wrap64; omega
  rw [hw, show ((c : Int) * 2 ^ (8 * k)) = ((2 ^ (8 * k) * c : Nat) : Int) from by rw [Int.natCast_mul, Int.natCast_pow]; exact Int.mul_comm _ _]
  have hm : 2 ^ (8 * k) * c ≤ 16777216 * 255 := Nat.mul_le_mul hp (by omega)
  have hw2 : wrap64 ((2 ^ (8 * k) * c : Nat) : Int) = ((2 ^ (8 * k) * c : Nat) : Int) := by
    generalize 2 ^ (8 * k) * c = q at *
    unfold wrap64
    omega
  rw [hw2]
  exact or_join a c (8 * k) hlt (by omega) hp
end Go.Proofs.Ytefbmbfhhhjgkaa
