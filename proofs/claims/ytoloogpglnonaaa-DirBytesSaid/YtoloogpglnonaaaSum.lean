import Derived.Test.YtoloogpglnonaaaRdr
namespace Go.Proofs.Ytoloogpglnonaaa
open Go.RowKit

theorem ofInt32_nat (a : Nat) (ha : a < 4294967296) : (BitVec.ofInt 32 (a : Int)).toNat = a := by
  rw [BitVec.ofInt_natCast, BitVec.toNat_ofNat]
  exact Nat.mod_eq_of_lt (by omega)
theorem bits_xor_u32 (a b : Nat) (ha : a < 4294967296) (hb : b < 4294967296) : bits .xor .u32 (a : Int) (b : Int) = ((a ^^^ b : Nat) : Int) := by
  have hx : a ^^^ b < 2 ^ 32 := Nat.xor_lt_two_pow (by omega) (by omega)
  show IntKind.u32.wrap ((BitVec.ofInt 32 (a : Int) ^^^ BitVec.ofInt 32 (b : Int)).toNat : Int) = _
  rw [BitVec.toNat_xor, ofInt32_nat a ha, ofInt32_nat b hb, IntKind.wrap_u32]
  omega
theorem bits_and_u32 (a b : Nat) (ha : a < 4294967296) (hb : b < 4294967296) : bits .and .u32 (a : Int) (b : Int) = ((a &&& b : Nat) : Int) := by
  have hx : a &&& b < 2 ^ 32 := Nat.and_lt_two_pow _ (by omega)
  show IntKind.u32.wrap ((BitVec.ofInt 32 (a : Int) &&& BitVec.ofInt 32 (b : Int)).toNat : Int) = _
  rw [BitVec.toNat_and, ofInt32_nat a ha, ofInt32_nat b hb, IntKind.wrap_u32]
  omega

def halfT : List Nat := [0, 498536548, 997073096, 651767980, 1994146192, 1802195444, 1303535960, 1342533948, 3988292384, 4027552580, 3604390888, 3412177804, 2607071920, 2262029012, 2685067896, 3183342108]
def halfC : Array Value := #[.int .u32 0, .int .u32 498536548, .int .u32 997073096, .int .u32 651767980, .int .u32 1994146192, .int .u32 1802195444, .int .u32 1303535960, .int .u32 1342533948, .int .u32 3988292384, .int .u32 4027552580, .int .u32 3604390888, .int .u32 3412177804, .int .u32 2607071920, .int .u32 2262029012, .int .u32 2685067896, .int .u32 3183342108]
theorem halfC_at (i : Nat) (h : i < 16) : halfC[i]? = some (.int .u32 (halfT.getD i 0 : Nat)) := by
  match i, h with
  | 0, _ | 1, _ | 2, _ | 3, _ | 4, _ | 5, _ | 6, _ | 7, _ | 8, _ | 9, _ | 10, _ | 11, _ | 12, _ | 13, _ | 14, _ | 15, _ => rfl
  | n + 16, h => omega
theorem halfT_lt (i : Nat) : halfT.getD i 0 < 4294967296 := by
  rcases Nat.lt_or_ge i 16 with h | h
  · match i, h with
    | 0, _ | 1, _ | 2, _ | 3, _ | 4, _ | 5, _ | 6, _ | 7, _ | 8, _ | 9, _ | 10, _ | 11, _ | 12, _ | 13, _ | 14, _ | 15, _ => decide
    | n + 16, h => omega
  · rw [List.getD_eq_getElem?_getD, List.getElem?_eq_none (by simpa [halfT] using h)]; decide
/-- One nibble, one byte. -/
def nib (s : Nat) : Nat := (s / 16) ^^^ halfT.getD (s % 16) 0
def crcB (s : Nat) (c : UInt8) : Nat := nib (nib (s ^^^ c.toNat))
def crcS (s : Nat) (l : List UInt8) : Nat := l.foldl crcB s
def crcP (l : List UInt8) : Nat := 4294967295 - crcS 4294967295 l
theorem nib_lt (s : Nat) (h : s < 4294967296) : nib s < 4294967296 := Nat.xor_lt_two_pow (n := 32) (by omega) (halfT_lt _)
theorem xor8_lt (s : Nat) (c : UInt8) (h : s < 4294967296) : s ^^^ c.toNat < 4294967296 := Nat.xor_lt_two_pow (n := 32) h (by have := c.toNat_lt; omega)
theorem crcB_lt (s : Nat) (c : UInt8) (h : s < 4294967296) : crcB s c < 4294967296 := nib_lt _ (nib_lt _ (xor8_lt s c h))
theorem crcS_lt (l : List UInt8) : ∀ s, s < 4294967296 → crcS s l < 4294967296 := by
  induction l with
  | nil => exact fun s h => h
  | cons c l ih => exact fun s h => ih _ (crcB_lt s c h)
theorem crcS_take (l : List UInt8) {k : Nat} (h : k < l.length) (s : Nat) : crcS s (l.take (k + 1)) = crcB (crcS s (l.take k)) l[k] := by
  rw [take_succ8 l h, crcS, List.foldl_append]; rfl

theorem xor_all (s : Nat) (hs : s < 4294967296) : 4294967295 ^^^ s = 4294967295 - s := by
  have h1 : (BitVec.ofNat 32 4294967295 ^^^ BitVec.ofNat 32 s).toNat = 4294967295 ^^^ s := by
    rw [BitVec.toNat_xor, BitVec.toNat_ofNat, BitVec.toNat_ofNat, Nat.mod_eq_of_lt (by omega), Nat.mod_eq_of_lt (by omega)]
  have h2 : BitVec.ofNat 32 4294967295 ^^^ BitVec.ofNat 32 s = ~~~ (BitVec.ofNat 32 s) := by
    rw [show BitVec.ofNat 32 4294967295 = BitVec.allOnes 32 from rfl, BitVec.allOnes_xor]
  rw [← h1, h2, BitVec.toNat_not, BitVec.toNat_ofNat, Nat.mod_eq_of_lt (by omega)]
set_option maxRecDepth 10000 in
set_option maxHeartbeats 400000 in
theorem Sum_calls (w : World) (x : Value) (bs : List UInt8) (hx : Rd w x (bvs bs)) (hl : bs.length ≤ 1000000000) :
    Calls Try.prog 56 #[x] w fun e w' => e = .returned (.int .u32 (crcP bs)) ∧ Below w.heap.size w w' := by
  have hx0 := hx
  obtain ⟨A, c, rfl⟩ := hx.shape8
  go_enter Try.func56, Try.ntmps56
  go_wp2
  obtain ⟨W, hW⟩ : ∃ W, W = w.alloc (.cells halfC 111) := ⟨_, rfl⟩
  have hB : Blk W w.heap.size 111 halfC := by rw [hW]; exact Blk.new _ _ _
  have hx1 : Rd W (.slice A bs.length c) (bvs bs) := by rw [hW]; exact hx0.alloc _
  have hBel : Below w.heap.size w W := by rw [hW]; exact (Below.refl _ _).alloc (Nat.le_refl _) _
  unfold halfC at hW
  rw [← hW]
  clear hW hx hx0
  generalize hgb : w.heap.size = gb at *
  have HG := Lib.hid hgb
  clear hgb
  go_loop [4, 10] (fun o i => ∃ k s : Nat, k ≤ bs.length ∧ i = .int .i64 k ∧ o = .int .u32 s ∧ s < 4294967296 ∧ s = crcS 4294967295 (bs.take k)) (fun _ i => bs.length - (intOf i).toNat)
  case atStart => exact ⟨0, 4294967295, Nat.zero_le _, rfl, rfl, by omega, rfl⟩
  case round =>
    obtain ⟨k, s, hk, rfl, rfl, hs, hsv⟩ := hrel
    have HS := Lib.hid hsv
    clear hsv
    by_cases hlt : k < bs.length
    · obtain ⟨ad, c', e, hc⟩ := hx1.at8 hlt
      injection e with e1 e2 e3
      subst e1
      unfold bv at hc
      have hcb := (bs[k]).toNat_lt
      have hv := HS.out
      obtain ⟨t, ht⟩ : ∃ t, t = s ^^^ (bs[k]).toNat := ⟨_, rfl⟩
      have ht0 : t < 4294967296 := by rw [ht]; exact xor8_lt s bs[k] hs
      have E1 : bits .xor .u32 (s : Int) ((bs[k]).toNat : Int) = (t : Int) := by rw [bits_xor_u32 _ _ hs (by omega), ht]
      have step : ∀ r : Nat, r < 4294967296 → ∃ i h r2 : Nat, bits .and .u32 (r : Int) 15 = (i : Int) ∧ i < 16 ∧ W.cell? ⟨gb, i, none⟩ = some (.int .u32 (h : Int)) ∧ bits .xor .u32 ((r : Int) / 16) (h : Int) = (r2 : Int) ∧ r2 < 4294967296 ∧ r2 = nib r := by
        intro r hr
        refine ⟨r % 16, halfT.getD (r % 16) 0, nib r, ?_, by omega, ?_, ?_, nib_lt r hr, rfl⟩
        · rw [show (15 : Int) = ((15 : Nat) : Int) from rfl, bits_and_u32 _ _ hr (by omega)]
          congr 1
          exact Nat.and_two_pow_sub_one_eq_mod r 4
        · rw [hB.cell]; exact halfC_at _ (by omega)
        · rw [show (r : Int) / 16 = ((r / 16 : Nat) : Int) from by omega, bits_xor_u32 _ _ (by omega) (halfT_lt _)]
          rfl
      obtain ⟨i1, h1, t1, F1, F2, F3, F4, F5, F6⟩ := step t ht0
      obtain ⟨i2, h2, t2, G1, G2, G3, G4, G5, G6⟩ := step t1 F5
      have HT : Hid (t2 = crcS 4294967295 (bs.take (k + 1))) := by rw [crcS_take bs hlt, ← hv, crcB, ← ht, ← F6, ← G6]; rfl
      clear step hv ht F6 G6 hB
      go_wp2
      go_round
      case rel => exact ⟨k + 1, t2, by omega, by go_num, rfl, G5, HT.out⟩
      case measure => simp [intOf]; omega
    · have e : bs.take k = bs := List.take_of_length_le (by omega)
      have HE : Hid (s = crcS 4294967295 bs) := by rw [← e]; exact HS.out
      have hx3 : bits .xor .u32 IntKind.u32.max (s : Int) = ((4294967295 - s : Nat) : Int) := by
        rw [show IntKind.u32.max = ((4294967295 : Nat) : Int) from rfl, bits_xor_u32 _ _ (by omega) hs]
        congr 1
        exact xor_all s hs
      clear HS e
      go_wp2
      go_ret
      refine ⟨?_, ?_⟩
      · show Ending.returned (.int .u32 ((4294967295 - s : Nat) : Int)) = _
        rw [HE.out]; rfl
      · rw [HG.out]; exact hBel
end Go.Proofs.Ytoloogpglnonaaa
