import Derived.Test.YtoloogpglnonaaaRop
import Derived.Deep.CutRange
namespace Go.Proofs.Ytoloogpglnonaaa
open Go.RowKit
theorem Own8.form {w : World} {v : Value} {xs : List UInt8} (h : Own8 w v xs) (hn : 0 < xs.length) : ∃ g cap, v = .slice (some ⟨g, 0, none⟩) xs.length cap := by
  rcases h.2 with ⟨rfl, hn'⟩ | ⟨g', cap, cur, rfl, _, hg, _⟩
  · omega
  · exact ⟨_, _, rfl⟩
theorem Own8.put {w : World} {g n cap : Nat} {xs : List UInt8} (h : Own8 w (.slice (some ⟨g, 0, none⟩) n cap) xs) (hn : n = xs.length) (j : Nat) (b : UInt8) :
    Own8 (w.setCell ⟨g, j, none⟩ (bv b)) (.slice (some ⟨g, 0, none⟩) n cap) (xs.set j b) := by
  subst hn
  have := (World.ownsRow.stored h j (bv b)).1
  unfold Own8
  rw [List.length_set, bvs, List.map_set]
  exact this
theorem ofNat_toNat8 (n : Nat) (h : n < 256) : (UInt8.ofNat n).toNat = n := by simp; omega
theorem pow8_lt (r : Nat) (h : r < 8) : 2 ^ r < 256 := Nat.pow_lt_pow_right (by omega) h
theorem pow_cast (r : Nat) : (2 : Int) ^ r = ((2 ^ r : Nat) : Int) := by rw [Int.natCast_pow]; rfl
theorem pow8_wrap (r : Nat) (h : r < 8) : IntKind.u8.wrap (2 ^ r) = 2 ^ r := by
  have := pow8_lt r h
  rw [pow_cast, IntKind.wrap_u8]
  generalize 2 ^ r = p at *
  omega
theorem xor_lt8 (v r : Nat) (hv : v < 256) (hr : r < 8) : v ^^^ 2 ^ r < 256 :=
  Nat.xor_lt_two_pow (n := 8) (by omega) (Nat.pow_lt_pow_right (by omega) hr)
theorem xor_ne (v r : Nat) : v ^^^ 2 ^ r ≠ v := by
  intro e
  have h := congrArg (fun z => z ^^^ v) e
  simp only [Nat.xor_comm v, Nat.xor_assoc, Nat.xor_self, Nat.xor_zero] at h
  have := Nat.two_pow_pos r
  omega
/-- One bit turned. -/
def flipB (c : UInt8) (r : Nat) : UInt8 := UInt8.ofNat (c.toNat ^^^ 2 ^ r)
theorem flipB_ne (c : UInt8) (r : Nat) (h : r < 8) : c ≠ flipB c r := by
  intro e
  have h1 := congrArg UInt8.toNat e
  unfold flipB at h1
  rw [ofNat_toNat8 _ (xor_lt8 _ r c.toNat_lt h)] at h1
  exact xor_ne _ _ h1.symm
end Go.Proofs.Ytoloogpglnonaaa
