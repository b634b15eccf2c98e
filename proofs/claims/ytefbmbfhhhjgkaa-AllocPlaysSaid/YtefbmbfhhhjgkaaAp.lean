/- Maps of bits: their calls. Pools in plain words: the first free one, how many are free; a transaction's blocks. -/
import Derived.Test.YtefbmbfhhhjgkaaWlb
import Derived.Laws.MakeOwn
namespace Go.Proofs.Ytefbmbfhhhjgkaa
open Go.RowKit
/-- Bit i of a map. -/
def bitAt (bs : List UInt8) (i : Nat) : Bool := (bs.getD (i / 8) 0).toNat.testBit (i % 8)
def isP (bs : List UInt8) (i : Int) : Bool := decide (0 ≤ i) && decide (i / 8 < (bs.length : Int))
def hasP (bs : List UInt8) (i : Int) : Bool := isP bs i && bitAt bs i.toNat
set_option maxRecDepth 10000 in
set_option maxHeartbeats 400000 in
theorem is_calls (w : World) (x : Value) (bs : List UInt8) (i : Int) (hx : Rd w x (bvs bs)) (hl : bs.length ≤ 1000000000000) (h1 : -9223372036854775808 ≤ i) (h2 : i ≤ 9223372036854775807) :
    Calls Try.prog 72 #[x, .int .i64 i] w fun e w' => e = .returned (.bool (isP bs i)) ∧ w = w' := by
  obtain ⟨A, c, rfl⟩ := hx.shape8
  unfold isP
  by_cases h0 : 0 ≤ i
  · have hd : decide (0 ≤ i) = true := decide_eq_true h0
    go_enter Try.func72, Try.ntmps72
    go_wp2
    go_ret
    refine ⟨?_, rfl⟩
    show Ending.returned (.bool (decide (i / 8 < (bs.length : Int)))) = _
    rw [hd, Bool.true_and]
  · have hd : decide (0 ≤ i) = false := decide_eq_false h0
    go_enter Try.func72, Try.ntmps72
    go_wp2
    go_ret
    simp
set_option maxRecDepth 10000 in
set_option maxHeartbeats 400000 in
theorem has_calls (w : World) (x : Value) (bs : List UInt8) (i : Int) (hx : Rd w x (bvs bs)) (hl : bs.length ≤ 1000000000000) (h1 : -9223372036854775808 ≤ i) (h2 : i ≤ 9223372036854775807) :
    Calls Try.prog 44 #[x, .int .i64 i] w fun e w' => e = .returned (.bool (hasP bs i)) ∧ w = w' := by
  have hx0 := hx
  obtain ⟨A, c, rfl⟩ := hx.shape8
  unfold hasP
  have HI := Lib.hid (is_calls w _ bs i hx0 hl h1 h2)
  by_cases hp : isP bs i = true
  · rw [hp] at HI ⊢
    have hp' := hp
    simp only [isP, Bool.and_eq_true, decide_eq_true_eq] at hp'
    obtain ⟨h0, hq⟩ := hp'
    obtain ⟨m, rfl⟩ := Int.eq_ofNat_of_zero_le h0
    rw [Int.toNat_natCast]
    have hq2 : m / 8 < bs.length := by omega
    obtain ⟨ad, rfl, hc⟩ := hx0.at8a hq2
    unfold bv at hc
    have hbit : bitAt bs m = bs[m / 8].toNat.testBit (m % 8) := by unfold bitAt; rw [List.getD_eq_getElem?_getD, List.getElem?_eq_getElem hq2]; rfl
    have HB := Lib.hid hbit
    generalize hv : bs[m / 8].toNat = v at *
    have hv2 : v < 256 := by rw [← hv]; exact bs[m / 8].toNat_lt
    clear hv hbit hp
    obtain ⟨q, hq1⟩ : ∃ q, q = m / 8 := ⟨_, rfl⟩
    rw [← hq1] at hc hq2
    have hqe : (m : Int) / 8 = (q : Int) := by omega
    clear hq1
    obtain ⟨r, hr⟩ : ∃ r, r = m % 8 := ⟨_, rfl⟩
    rw [← hr] at HB
    have hr8 : r < 8 := by omega
    have hre : bits .and .i64 (m : Int) 7 = (r : Int) := by
      rw [show (7 : Int) = ((7 : Nat) : Int) from rfl, bits_and_i64 m 7 (by omega) (by omega), hr]
      congr 1
      exact Nat.and_two_pow_sub_one_eq_mod m 3
    clear hr
    have hb1 : bits .and .u8 ((v : Int) / 2 ^ r) 1 = if v.testBit r then 1 else 0 := by
      rw [show ((v : Int) / 2 ^ r) = ((v / 2 ^ r : Nat) : Int) from by rw [Int.natCast_ediv, Int.natCast_pow]; rfl, show (1 : Int) = ((1 : Nat) : Int) from rfl,
        bits_and_u8 _ 1 (Nat.lt_of_le_of_lt (Nat.div_le_self _ _) hv2) (by omega), Nat.and_one_is_mod, Nat.testBit_eq_decide_div_mod_eq]
      by_cases h : v / 2 ^ r % 2 = 1
      · simp [h]
      · rw [show v / 2 ^ r % 2 = 0 by omega]; simp
    have HBB := HB.out
    cases hbv : v.testBit r with
    | true =>
      rw [hbv] at hb1 HBB
      simp only [if_true] at hb1
      rw [HBB]
      clear hbv HB HBB
      go_enter Try.func44, Try.ntmps44
      go_wp2_with fail
      refine HI.out.mono ?_
      rintro e w1 ⟨rfl, rfl⟩
      go_wp2
      go_ret
      exact ⟨rfl, rfl⟩
    | false =>
      rw [hbv] at hb1 HBB
      simp only [Bool.false_eq_true, if_false] at hb1
      rw [HBB]
      clear hbv HB HBB
      go_enter Try.func44, Try.ntmps44
      go_wp2_with fail
      refine HI.out.mono ?_
      rintro e w1 ⟨rfl, rfl⟩
      go_wp2
      go_ret
      exact ⟨rfl, rfl⟩
  · have hp : isP bs i = false := by simpa using hp
    rw [hp] at HI ⊢
    clear hp
    go_enter Try.func44, Try.ntmps44
    go_wp2_with fail
    refine HI.out.mono ?_
    rintro e w1 ⟨rfl, rfl⟩
    go_wp2
    go_ret
    exact ⟨rfl, rfl⟩
end Go.Proofs.Ytefbmbfhhhjgkaa
namespace Go.Proofs.Ytefbmbfhhhjgkaa
open Go.RowKit
theorem Own8.rd {w : World} {v : Value} {xs : List UInt8} (h : Own8 w v xs) : Rd w v (bvs xs) := Rd.of_own h
/-- What Set and Clear leave: bit i turned. -/
def turn (bs : List UInt8) (i : Nat) : List UInt8 := bs.set (i / 8) (UInt8.ofNat ((bs.getD (i / 8) 0).toNat ^^^ 2 ^ (i % 8)))
def setP (bs : List UInt8) (i : Int) : Bool × List UInt8 := if isP bs i = true ∧ bitAt bs i.toNat = false then (true, turn bs i.toNat) else (false, bs)
def clearP (bs : List UInt8) (i : Int) : Bool × List UInt8 := if hasP bs i = true then (true, turn bs i.toNat) else (false, bs)
def MapOut (w : World) (v : Value) (o : Bool × List UInt8) (e : Ending) (w' : World) : Prop :=
  e = .returned (.bool o.1) ∧ Own8 w' v o.2 ∧ Chg (fun k => v.ownBlock = some k) w w'
theorem or_bit (v r : Nat) (h : v.testBit r = false) : v ||| 2 ^ r = v ^^^ 2 ^ r := by
  apply Nat.eq_of_testBit_eq
  intro j
  rw [Nat.testBit_or, Nat.testBit_xor, Nat.testBit_two_pow]
  by_cases hj : r = j
  · subst hj; simp [h]
  · simp [hj]
theorem xor_lt8 (v r : Nat) (hv : v < 256) (hr : r < 8) : v ^^^ 2 ^ r < 256 :=
  Nat.xor_lt_two_pow (n := 8) (by omega) (Nat.pow_lt_pow_right (by omega) hr)
theorem turn_at {bs : List UInt8} {m : Nat} (h : m / 8 < bs.length) : turn bs m = bs.set (m / 8) (UInt8.ofNat (bs[m / 8].toNat ^^^ 2 ^ (m % 8))) := by
  unfold turn
  rw [List.getD_eq_getElem?_getD, List.getElem?_eq_getElem h]; rfl
theorem ofNat_toNat8 (n : Nat) (h : n < 256) : (UInt8.ofNat n).toNat = n := by simp; omega
theorem pow8_lt (r : Nat) (h : r < 8) : 2 ^ r < 256 := Nat.pow_lt_pow_right (by omega) h
theorem pow_cast (r : Nat) : (2 : Int) ^ r = ((2 ^ r : Nat) : Int) := by rw [Int.natCast_pow]; rfl
theorem pow8_wrap (r : Nat) (h : r < 8) : IntKind.u8.wrap (2 ^ r) = 2 ^ r := by
  have := pow8_lt r h
  rw [pow_cast, IntKind.wrap_u8]
  generalize 2 ^ r = p at *
  omega
set_option maxRecDepth 10000 in
set_option maxHeartbeats 400000 in
theorem set_calls (w : World) (x : Value) (bs : List UInt8) (i : Int) (hx : Own8 w x bs) (hl : bs.length ≤ 1000000000000) (h1 : -9223372036854775808 ≤ i) (h2 : i ≤ 9223372036854775807) :
    Calls Try.prog 38 #[x, .int .i64 i] w (MapOut w x (setP bs i)) := by
  have HI := Lib.hid (is_calls w _ bs i hx.rd hl h1 h2)
  have HH := Lib.hid (has_calls w _ bs i hx.rd hl h1 h2)
  unfold setP
  by_cases hp : isP bs i = true
  · have hp' := hp
    simp only [isP, Bool.and_eq_true, decide_eq_true_eq] at hp'
    obtain ⟨h0, hq⟩ := hp'
    obtain ⟨m, rfl⟩ := Int.eq_ofNat_of_zero_le h0
    rw [Int.toNat_natCast]
    have hh : hasP bs (m : Int) = bitAt bs m := by unfold hasP; rw [hp, Bool.true_and, Int.toNat_natCast]
    rw [hh] at HH
    rw [hp] at HI
    have hq2 : m / 8 < bs.length := by omega
    obtain ⟨g, cap, rfl⟩ := hx.form (by omega)
    cases hbit : bitAt bs m with
    | true =>
      rw [if_neg (by simp)]
      rw [hbit] at HH
      clear hh hbit hp
      go_enter Try.func38, Try.ntmps38
      go_wp2_with fail
      refine HI.out.mono ?_
      rintro e w1 ⟨rfl, rfl⟩
      go_wp2_with fail
      refine HH.out.mono ?_
      rintro e w1 ⟨rfl, rfl⟩
      go_wp2
      go_ret
      exact ⟨rfl, hx, Chg.refl _ _⟩
    | false =>
      rw [if_pos ⟨hp, rfl⟩]
      rw [hbit] at HH
      have hbit2 : bs[m / 8].toNat.testBit (m % 8) = false := by
        have := hbit
        unfold bitAt at this
        rw [List.getD_eq_getElem?_getD, List.getElem?_eq_getElem hq2] at this
        exact this
      have hor := or_bit _ _ hbit2
      rw [turn_at hq2]
      obtain ⟨ad, e, hc⟩ := hx.rd.at8a hq2
      have hf := World.ownsRow.frozenAt hx (m / 8)
      have hput := hx.put rfl (m / 8) (UInt8.ofNat (bs[m / 8].toNat ^^^ 2 ^ (m % 8)))
      injection e with e
      subst e
      rw [addr_add_at, Nat.zero_add] at hc
      have hv2 : bs[m / 8].toNat < 256 := bs[m / 8].toNat_lt
      unfold bv at hc hput
      rw [ofNat_toNat8 _ (xor_lt8 _ _ hv2 (by omega))] at hput
      obtain ⟨us, hus⟩ : ∃ us, us = bs.set (m / 8) (UInt8.ofNat (bs[m / 8].toNat ^^^ 2 ^ (m % 8))) := ⟨_, rfl⟩
      rw [← hus] at hput ⊢
      obtain ⟨r, hr⟩ : ∃ r, r = m % 8 := ⟨_, rfl⟩
      have hr8 : r < 8 := by omega
      have hre : bits .and .i64 (m : Int) 7 = (r : Int) := by
        rw [show (7 : Int) = ((7 : Nat) : Int) from rfl, bits_and_i64 m 7 (by omega) (by omega), hr]
        congr 1
        exact Nat.and_two_pow_sub_one_eq_mod m 3
      rw [← hr] at hput hor
      clear hus hbit2 hbit hh hr
      generalize bs[m / 8].toNat = v at *
      obtain ⟨q, hq1⟩ : ∃ q, q = m / 8 := ⟨_, rfl⟩
      rw [← hq1] at hc hq2 hput hf
      have hqe : (m : Int) / 8 = (q : Int) := by omega
      clear hq1 hp
      have hsh := pow8_wrap r hr8
      obtain ⟨y, hy⟩ : ∃ y, y = v ^^^ 2 ^ r := ⟨_, rfl⟩
      have hor2 : bits .or .u8 (v : Int) (2 ^ r) = (y : Int) := by
        rw [pow_cast, bits_or_u8 _ _ hv2 (pow8_lt r hr8), hor, hy]
      rw [← hy] at hput
      clear hor hy
      go_enter Try.func38, Try.ntmps38
      go_wp2_with fail
      refine HI.out.mono ?_
      rintro e w1 ⟨rfl, rfl⟩
      go_wp2_with fail
      refine HH.out.mono ?_
      rintro e w1 ⟨rfl, rfl⟩
      go_wp2
      refine wp_mix_tail (fun W => W.cell? ⟨g, q, none⟩ = some (.int .u8 v)) [10] (by kernel_rfl) (by kernel_rfl) (by kernel_rfl) (by kernel_rfl) hc ?_
      iterate 8 (refine mixq rfl rfl ?_ (fun w' hw' => Or.inl ?_) (fun K hK => ?_); rotate_left; (focus (have c0 : w'.cell? ⟨g, q, none⟩ = some (.int .u8 v) := hw'; go_simp; rfl)); go_simp; refine hK _ ?_; clear hK K)
      refine mixq rfl rfl ?_ (fun w' hw' => Or.inl ?_) (fun K hK => ?_); rotate_left; (focus (go_simp; rfl)); go_simp; refine hK _ ?_; clear hK K
      refine mixq rfl rfl ?_ (fun w' hw' => Or.inl ?_) (fun K hK => ?_); rotate_left; (focus (go_simp; rfl)); go_simp; refine hK _ ?_; clear hK K
      refine mixl rfl rfl (fun K hK => ?_)
      go_simp
      refine hK _ _ (fun hf => (by cases hf)) (mix_nil ?_)
      clear hK K
      go_wp2
      go_ret
      exact ⟨rfl, hput, ((Chg.refl (fun k => (Value.slice (some ⟨g, 0, none⟩) bs.length cap).ownBlock = some k) w).drew).setCell (p := ⟨g, q, none⟩) (fun _ => rfl) _⟩
  · have hp : isP bs i = false := by simpa using hp
    rw [if_neg (fun h => by rw [hp] at h; exact absurd h.1 (by simp))]
    rw [hp] at HI
    clear hp HH
    go_enter Try.func38, Try.ntmps38
    go_wp2_with fail
    refine HI.out.mono ?_
    rintro e w1 ⟨rfl, rfl⟩
    go_wp2
    go_ret
    exact ⟨rfl, hx, Chg.refl _ _⟩
theorem andnot_bit (v r : Nat) (hv : v < 256) (hr : r < 8) (h : v.testBit r = true) : bits .andNot .u8 (v : Int) ((2 ^ r : Nat) : Int) = ((v ^^^ 2 ^ r : Nat) : Int) := by
  have hp := pow8_lt r hr
  have hx := xor_lt8 v r hv hr
  show IntKind.u8.wrap ((BitVec.ofInt 8 (v : Int) &&& ~~~ BitVec.ofInt 8 ((2 ^ r : Nat) : Int)).toNat : Int) = _
  have e : BitVec.ofInt 8 (v : Int) &&& ~~~ BitVec.ofInt 8 ((2 ^ r : Nat) : Int) = BitVec.ofInt 8 (v : Int) ^^^ BitVec.ofInt 8 ((2 ^ r : Nat) : Int) := by
    apply BitVec.eq_of_getLsbD_eq
    intro i hi
    rw [BitVec.getLsbD_and, BitVec.getLsbD_not, BitVec.getLsbD_xor]
    simp only [hi, decide_true, Bool.true_and]
    have e1 : (BitVec.ofInt 8 (v : Int)).getLsbD i = v.testBit i := by unfold BitVec.getLsbD; rw [ofInt8_nat v hv]
    have e2 : (BitVec.ofInt 8 ((2 ^ r : Nat) : Int)).getLsbD i = (2 ^ r).testBit i := by unfold BitVec.getLsbD; rw [ofInt8_nat _ hp]
    rw [e1, e2, Nat.testBit_two_pow]
    by_cases hri : r = i
    · subst hri; simp [h]
    · simp [hri]
  rw [e, BitVec.toNat_xor, ofInt8_nat v hv, ofInt8_nat _ hp, IntKind.wrap_u8]
  omega
set_option maxRecDepth 10000 in
set_option maxHeartbeats 400000 in
theorem clear_calls (w : World) (x : Value) (bs : List UInt8) (i : Int) (hx : Own8 w x bs) (hl : bs.length ≤ 1000000000000) (h1 : -9223372036854775808 ≤ i) (h2 : i ≤ 9223372036854775807) :
    Calls Try.prog 40 #[x, .int .i64 i] w (MapOut w x (clearP bs i)) := by
  have HH := Lib.hid (has_calls w _ bs i hx.rd hl h1 h2)
  unfold clearP
  by_cases hp0 : hasP bs i = true
  · rw [if_pos hp0]
    rw [hp0] at HH
    have hp := hp0
    unfold hasP at hp
    rw [Bool.and_eq_true] at hp
    obtain ⟨hp, hbit⟩ := hp
    simp only [isP, Bool.and_eq_true, decide_eq_true_eq] at hp
    obtain ⟨h0, hq⟩ := hp
    obtain ⟨m, rfl⟩ := Int.eq_ofNat_of_zero_le h0
    rw [Int.toNat_natCast] at hbit ⊢
    have hq2 : m / 8 < bs.length := by omega
    obtain ⟨g, cap, rfl⟩ := hx.form (by omega)
    have hbit2 : bs[m / 8].toNat.testBit (m % 8) = true := by
      have := hbit
      unfold bitAt at this
      rw [List.getD_eq_getElem?_getD, List.getElem?_eq_getElem hq2] at this
      exact this
    rw [turn_at hq2]
    obtain ⟨ad, e, hc⟩ := hx.rd.at8a hq2
    have hf := World.ownsRow.frozenAt hx (m / 8)
    have hput := hx.put rfl (m / 8) (UInt8.ofNat (bs[m / 8].toNat ^^^ 2 ^ (m % 8)))
    injection e with e
    subst e
    rw [addr_add_at, Nat.zero_add] at hc
    have hv2 : bs[m / 8].toNat < 256 := bs[m / 8].toNat_lt
    unfold bv at hc hput
    rw [ofNat_toNat8 _ (xor_lt8 _ _ hv2 (by omega))] at hput
    obtain ⟨us, hus⟩ : ∃ us, us = bs.set (m / 8) (UInt8.ofNat (bs[m / 8].toNat ^^^ 2 ^ (m % 8))) := ⟨_, rfl⟩
    rw [← hus] at hput ⊢
    obtain ⟨r, hr⟩ : ∃ r, r = m % 8 := ⟨_, rfl⟩
    have hr8 : r < 8 := by omega
    have hre : bits .and .i64 (m : Int) 7 = (r : Int) := by
      rw [show (7 : Int) = ((7 : Nat) : Int) from rfl, bits_and_i64 m 7 (by omega) (by omega), hr]
      congr 1
      exact Nat.and_two_pow_sub_one_eq_mod m 3
    rw [← hr] at hput hbit2
    clear hus hbit hr hp0
    generalize bs[m / 8].toNat = v at *
    obtain ⟨q, hq1⟩ : ∃ q, q = m / 8 := ⟨_, rfl⟩
    rw [← hq1] at hc hq2 hput hf
    have hqe : (m : Int) / 8 = (q : Int) := by omega
    clear hq1
    have hsh := pow8_wrap r hr8
    obtain ⟨y, hy⟩ : ∃ y, y = v ^^^ 2 ^ r := ⟨_, rfl⟩
    have hor2 : bits .andNot .u8 (v : Int) (2 ^ r) = (y : Int) := by
      rw [pow_cast, andnot_bit _ _ hv2 hr8 hbit2, hy]
    rw [← hy] at hput
    clear hy hbit2
    go_enter Try.func40, Try.ntmps40
    go_wp2_with fail
    refine HH.out.mono ?_
    rintro e w1 ⟨rfl, rfl⟩
    go_wp2
    refine wp_mix_tail (fun W => W.cell? ⟨g, q, none⟩ = some (.int .u8 v)) [10] (by kernel_rfl) (by kernel_rfl) (by kernel_rfl) (by kernel_rfl) hc ?_
    iterate 8 (refine mixq rfl rfl ?_ (fun w' hw' => Or.inl ?_) (fun K hK => ?_); rotate_left; (focus (have c0 : w'.cell? ⟨g, q, none⟩ = some (.int .u8 v) := hw'; go_simp; rfl)); go_simp; refine hK _ ?_; clear hK K)
    refine mixq rfl rfl ?_ (fun w' hw' => Or.inl ?_) (fun K hK => ?_); rotate_left; (focus (go_simp; rfl)); go_simp; refine hK _ ?_; clear hK K
    refine mixq rfl rfl ?_ (fun w' hw' => Or.inl ?_) (fun K hK => ?_); rotate_left; (focus (go_simp; rfl)); go_simp; refine hK _ ?_; clear hK K
    refine mixl rfl rfl (fun K hK => ?_)
    go_simp
    refine hK _ _ (fun hf => (by cases hf)) (mix_nil ?_)
    clear hK K
    go_wp2
    go_ret
    exact ⟨rfl, hput, ((Chg.refl (fun k => (Value.slice (some ⟨g, 0, none⟩) bs.length cap).ownBlock = some k) w).drew).setCell (p := ⟨g, q, none⟩) (fun _ => rfl) _⟩
  · have hp : hasP bs i = false := by simpa using hp0
    rw [if_neg hp0]
    rw [hp] at HH
    clear hp hp0
    go_enter Try.func40, Try.ntmps40
    go_wp2_with fail
    refine HH.out.mono ?_
    rintro e w1 ⟨rfl, rfl⟩
    go_wp2
    go_ret
    exact ⟨rfl, hx, Chg.refl _ _⟩
end Go.Proofs.Ytefbmbfhhhjgkaa
namespace Go.Proofs.Ytefbmbfhhhjgkaa
open Go.RowKit
/-- From place i on, d places, with so many free ones ahead. -/
def runG (bs : List UInt8) (n : Int) : Nat → Int → Int → Int × Bool
  | 0, _, _ => (0, false)
  | d + 1, i, row => if (if hasP bs i = true then 0 else row + 1) = n then (i - n + 1, true) else runG bs n d (i + 1) (if hasP bs i = true then 0 else row + 1)
def lo (a : Int) : Int := max a 0
def hi (bs : List UInt8) (b : Int) : Int := min b (8 * (bs.length : Int))
def runP (bs : List UInt8) (a b n : Int) : Int × Bool := if n < 1 then (0, false) else runG bs n (hi bs b - lo a).toNat (lo a) 0
def cntG (bs : List UInt8) : Nat → Int → Int
  | 0, _ => 0
  | d + 1, i => (if hasP bs i = true then 1 else 0) + cntG bs d (i + 1)
def countP (bs : List UInt8) (a b : Int) : Int := cntG bs (hi bs b - lo a).toNat (lo a)
set_option maxRecDepth 10000 in
set_option maxHeartbeats 400000 in
theorem run_calls (w : World) (x : Value) (bs : List UInt8) (a b n : Int) (hx : Rd w x (bvs bs)) (hl : bs.length ≤ 1000000000000)
    (a1 : -9223372036854775808 ≤ a) (a2 : a ≤ 9223372036854775807) (b1 : -9223372036854775808 ≤ b) (b2 : b ≤ 9223372036854775807) (n1 : -9223372036854775808 ≤ n) (n2 : n ≤ 9223372036854775807) :
    Calls Try.prog 71 #[x, .int .i64 a, .int .i64 b, .int .i64 n] w fun e w' => e = .returned (.tuple #[.int .i64 (runP bs a b n).1, .bool (runP bs a b n).2]) ∧ w = w' := by
  have hx0 := hx
  obtain ⟨A, c, rfl⟩ := hx.shape8
  by_cases hn : n < 1
  · have hr : runP bs a b n = (0, false) := by simp [runP, hn]
    rw [hr]
    clear hr
    go_enter Try.func71, Try.ntmps71
    go_wp2
    go_ret2
    exact ⟨rfl, rfl⟩
  · have hr : runP bs a b n = runG bs n (hi bs b - lo a).toNat (lo a) 0 := by simp [runP, hn]
    rw [hr]
    clear hr
    have m1 := run_imax (P := Try.prog) a 0
    have m2 := run_imin (P := Try.prog) b (8 * (bs.length : Int))
    have L1 : 0 ≤ lo a := by unfold lo; omega
    have L2 : lo a ≤ 9223372036854775807 := by unfold lo; omega
    have H1 : hi bs b ≤ 8 * (bs.length : Int) := by unfold hi; omega
    have H2 : -9223372036854775808 ≤ hi bs b := by unfold hi; omega
    rw [show imax a 0 = lo a from rfl] at m1
    rw [show imin b (8 * (bs.length : Int)) = hi bs b from rfl] at m2
    generalize lo a = l at *
    generalize hi bs b = h at *
    obtain ⟨R, hR⟩ : ∃ R, R = runG bs n (h - l).toNat l 0 := ⟨_, rfl⟩
    rw [← hR]
    have HR := Lib.hid hR
    clear hR a1 a2
    go_enter Try.func71, Try.ntmps71
    go_wp2
    go_loop [10, 11] (fun r i => ∃ (row j : Int), 0 ≤ row ∧ row ≤ j ∧ l ≤ j ∧ j ≤ 9223372036854775807 ∧ r = .int .i64 row ∧ i = .int .i64 j ∧ Hid (R = runG bs n (h - j).toNat j row)) (fun _ i => (h - intOf i).toNat)
    case atStart => exact ⟨0, l, by omega, by omega, by omega, L2, rfl, rfl, HR⟩
    case round =>
      obtain ⟨row, j, r1, r2, j1, j2, rfl, rfl, HQ⟩ := hrel
      by_cases hlt : j < h
      · have HS : Hid (R = if (if hasP bs j = true then 0 else row + 1) = n then (j - n + 1, true) else runG bs n (h - (j + 1)).toNat (j + 1) (if hasP bs j = true then 0 else row + 1)) := by
          have := HQ.out
          rw [show (h - j).toNat = (h - (j + 1)).toNat + 1 from by omega] at this
          exact this
        clear HQ
        have HC := Lib.hid (has_calls w _ bs j hx0 hl (by omega) (by omega))
        cases hb : hasP bs j with
        | true =>
          simp only [hb, if_true] at HS HC
          rw [if_neg (by omega)] at HS
          clear hb
          have hz : ((0 : Int) == n) = false := by simp; omega
          go_wp2_with fail
          refine HC.out.mono ?_
          rintro e w1 ⟨rfl, rfl⟩
          go_wp2
          go_round
          case rel => exact ⟨0, j + 1, by omega, by omega, by omega, by omega, rfl, rfl, HS⟩
          case measure => simp [intOf]; omega
        | false =>
          simp only [hb, Bool.false_eq_true, if_false] at HS HC
          clear hb
          by_cases hz : row + 1 = n
          · rw [if_pos hz] at HS
            have hzb : (row + 1 == n) = true := by simpa using hz
            clear hz
            go_wp2_with fail
            refine HC.out.mono ?_
            rintro e w1 ⟨rfl, rfl⟩
            go_wp2
            go_ret2
            rw [HS.out]
            exact ⟨rfl, rfl⟩
          · rw [if_neg hz] at HS
            have hzb : (row + 1 == n) = false := by simpa using hz
            clear hz
            go_wp2_with fail
            refine HC.out.mono ?_
            rintro e w1 ⟨rfl, rfl⟩
            go_wp2
            go_round
            case rel => exact ⟨row + 1, j + 1, by omega, by omega, by omega, by omega, rfl, rfl, HS⟩
            case measure => simp [intOf]; omega
      · have HE : Hid (R = (0, false)) := by
          have := HQ.out
          rw [show (h - j).toNat = 0 from by omega] at this
          exact this
        go_wp2
        go_ret2
        rw [HE.out]
        exact ⟨rfl, rfl⟩
end Go.Proofs.Ytefbmbfhhhjgkaa
namespace Go.Proofs.Ytefbmbfhhhjgkaa
open Go.RowKit
set_option maxRecDepth 10000 in
set_option maxHeartbeats 400000 in
theorem count_calls (w : World) (x : Value) (bs : List UInt8) (a b : Int) (hx : Rd w x (bvs bs)) (hl : bs.length ≤ 1000000000000)
    (a1 : -9223372036854775808 ≤ a) (a2 : a ≤ 9223372036854775807) (b1 : -9223372036854775808 ≤ b) (b2 : b ≤ 9223372036854775807) :
    Calls Try.prog 42 #[x, .int .i64 a, .int .i64 b] w fun e w' => e = .returned (.int .i64 (countP bs a b)) ∧ w = w' := by
  have hx0 := hx
  obtain ⟨A, c, rfl⟩ := hx.shape8
  have m1 := run_imax (P := Try.prog) a 0
  have m2 := run_imin (P := Try.prog) b (8 * (bs.length : Int))
  have L1 : 0 ≤ lo a := by unfold lo; omega
  have L2 : lo a ≤ 9223372036854775807 := by unfold lo; omega
  have H1 : hi bs b ≤ 8 * (bs.length : Int) := by unfold hi; omega
  have H2 : -9223372036854775808 ≤ hi bs b := by unfold hi; omega
  rw [show imax a 0 = lo a from rfl] at m1
  rw [show imin b (8 * (bs.length : Int)) = hi bs b from rfl] at m2
  unfold countP
  generalize lo a = l at *
  generalize hi bs b = h at *
  obtain ⟨R, hR⟩ : ∃ R, R = cntG bs (h - l).toNat l := ⟨_, rfl⟩
  rw [← hR]
  have HR : Hid (R = 0 + cntG bs (h - l).toNat l) := by show _ = _; rw [hR]; omega
  clear hR a1 a2
  go_enter Try.func42, Try.ntmps42
  go_wp2
  go_loop [7, 8] (fun r i => ∃ (k j : Int), 0 ≤ k ∧ k ≤ j ∧ l ≤ j ∧ j ≤ 9223372036854775807 ∧ r = .int .i64 k ∧ i = .int .i64 j ∧ Hid (R = k + cntG bs (h - j).toNat j)) (fun _ i => (h - intOf i).toNat)
  case atStart => exact ⟨0, l, by omega, by omega, by omega, L2, rfl, rfl, HR⟩
  case round =>
    obtain ⟨k, j, r1, r2, j1, j2, rfl, rfl, HQ⟩ := hrel
    by_cases hlt : j < h
    · have HS : Hid (R = k + ((if hasP bs j = true then 1 else 0) + cntG bs (h - (j + 1)).toNat (j + 1))) := by
        have := HQ.out
        rw [show (h - j).toNat = (h - (j + 1)).toNat + 1 from by omega] at this
        exact this
      clear HQ
      have HC := Lib.hid (has_calls w _ bs j hx0 hl (by omega) (by omega))
      cases hb : hasP bs j with
      | true =>
        simp only [hb, if_true] at HS HC
        clear hb
        go_wp2_with fail
        refine HC.out.mono ?_
        rintro e w1 ⟨rfl, rfl⟩
        go_wp2
        go_round
        case rel => exact ⟨k + 1, j + 1, by omega, by omega, by omega, by omega, rfl, rfl, by have := HS.out; show _ = _; omega⟩
        case measure => simp [intOf]; omega
      | false =>
        simp only [hb, Bool.false_eq_true, if_false] at HS HC
        clear hb
        go_wp2_with fail
        refine HC.out.mono ?_
        rintro e w1 ⟨rfl, rfl⟩
        go_wp2
        go_round
        case rel => exact ⟨k, j + 1, by omega, by omega, by omega, by omega, rfl, rfl, by have := HS.out; show _ = _; omega⟩
        case measure => simp [intOf]; omega
    · have HE : Hid (k = R) := by
        have := HQ.out
        rw [show (h - j).toNat = 0 from by omega] at this
        show _ = _
        rw [this]; simp [cntG]
      go_wp2
      go_ret
      rw [← HE.out]
      exact ⟨rfl, rfl⟩
set_option maxRecDepth 10000 in
set_option maxHeartbeats 400000 in
theorem first_calls (w : World) (x : Value) (bs : List UInt8) (a b : Int) (hx : Rd w x (bvs bs)) (hl : bs.length ≤ 1000000000000)
    (a1 : -9223372036854775808 ≤ a) (a2 : a ≤ 9223372036854775807) (b1 : -9223372036854775808 ≤ b) (b2 : b ≤ 9223372036854775807) :
    Calls Try.prog 37 #[x, .int .i64 a, .int .i64 b] w fun e w' => e = .returned (.tuple #[.int .i64 (runP bs a b 1).1, .bool (runP bs a b 1).2]) ∧ w = w' := by
  have HC := Lib.hid (run_calls w x bs a b 1 hx hl a1 a2 b1 b2 (by omega) (by omega))
  generalize runP bs a b 1 = R at *
  obtain ⟨r, o⟩ := R
  go_enter Try.func37, Try.ntmps37
  go_wp2_with fail
  refine HC.out.mono ?_
  rintro e w1 ⟨rfl, rfl⟩
  go_wp2
  go_ret2
  exact ⟨rfl, rfl⟩
/-- make([]byte, k). -/
theorem run_mk8 {P : Program} (t e : TypeId) (i : TypeInfo) (z : Value) (ht : P.underlying t = some (.slice e)) (hi : P.info? e = some i) (hz : i.zero = some z) (hzc : z.cells = #[z]) (hs : i.size = 1)
    (k : Nat) (hk : i.bytes * k ≤ 281474976710656) (h63 : k ≤ 9223372036854775807) (w : World) :
    (Instr.makeSlice t (.int .i64 (k : Int)) (.int .i64 (k : Int))).run P w = .ok (.slice (some ⟨w.heap.size, 0, none⟩) k k) (w.alloc (.cells (List.replicate k z).toArray e)) := by
  have hb : (i.bytes : Int) * (k : Int) ≤ 281474976710656 := by
    have h : ((i.bytes * k : Nat) : Int) ≤ 281474976710656 := by omega
    rwa [Int.natCast_mul] at h
  have hr := run_make (P := P) w t e i z ht hi hz .i64 .i64 k k (by omega) (by omega) hb (by omega)
  simp only [Int.toNat_natCast, hs, Nat.mul_one, hzc] at hr
  rw [hr]
  congr 2
  congr 1
  apply Array.ext'
  rw [toList_madeCells_one]
theorem own_mk8 (w : World) (k : Nat) (hk : k ≤ 1000000000000) : Own8 (w.alloc (.cells (List.replicate k (Value.int .u8 0)).toArray 5)) (.slice (some ⟨w.heap.size, 0, none⟩) k k) (List.replicate k 0) := by
  refine ⟨by simp [bvs], .inr ⟨w.heap.size, k, _, by rw [List.length_replicate], Nat.zero_le _, heap_alloc_new w _, by rw [List.length_replicate]; exact Nat.le_refl _, by unfold maxLen; omega, by simp, ?_⟩⟩
  simp [bvs, bv]
def newP (n : Int) : List UInt8 × Int := if n < 0 ∨ 1048576 < n then ([], 1) else (List.replicate ((n + 7) / 8).toNat 0, 0)
end Go.Proofs.Ytefbmbfhhhjgkaa
namespace Go.Proofs.Ytefbmbfhhhjgkaa
open Go.RowKit
/-- The least that is free, from i on, of d. -/
def leastG (T : Nat → Bool) : Nat → Nat → Option Nat
  | 0, _ => none
  | d + 1, i => if T i = false then some i else leastG T d (i + 1)
theorem leastG_some {T : Nat → Bool} : ∀ {d i j : Nat}, leastG T d i = some j → i ≤ j ∧ j < i + d ∧ T j = false ∧ ∀ k, i ≤ k → k < j → T k = true
  | 0, i, j, h => by cases h
  | d + 1, i, j, h => by
    unfold leastG at h
    by_cases e : T i = false
    · rw [if_pos e] at h
      injection h with h
      subst h
      exact ⟨Nat.le_refl _, by omega, e, fun k h1 h2 => by omega⟩
    · rw [if_neg e] at h
      obtain ⟨h1, h2, h3, h4⟩ := leastG_some h
      refine ⟨by omega, by omega, h3, fun k hk hk2 => ?_⟩
      by_cases e2 : k = i
      · subst e2; simpa using e
      · exact h4 k (by omega) hk2
theorem leastG_none {T : Nat → Bool} : ∀ {d i : Nat}, leastG T d i = none → ∀ k, i ≤ k → k < i + d → T k = true
  | 0, i, _, k, h1, h2 => by omega
  | d + 1, i, h, k, h1, h2 => by
    unfold leastG at h
    by_cases e : T i = false
    · rw [if_pos e] at h; cases h
    · rw [if_neg e] at h
      by_cases e2 : k = i
      · subst e2; simpa using e
      · exact leastG_none h k (by omega) (by omega)
theorem leastG_of {T : Nat → Bool} {d i j : Nat} (h1 : i ≤ j) (h2 : j < i + d) (h3 : T j = false) (h4 : ∀ k, i ≤ k → k < j → T k = true) : leastG T d i = some j := by
  cases h : leastG T d i with
  | none => have := leastG_none h j h1 h2; rw [h3] at this; cases this
  | some k =>
    obtain ⟨a1, a2, a3, a4⟩ := leastG_some h
    rcases Nat.lt_trichotomy k j with e | e | e
    · have := h4 k a1 e; rw [a3] at this; cases this
    · rw [e]
    · have := a4 j h1 e; rw [h3] at this; cases this
theorem leastG_all {T : Nat → Bool} {d i : Nat} (h : ∀ k, i ≤ k → k < i + d → T k = true) : leastG T d i = none := by
  cases e : leastG T d i with
  | none => rfl
  | some k =>
    obtain ⟨a1, a2, a3, a4⟩ := leastG_some e
    have := h k a1 a2; rw [a3] at this; cases this
theorem leastG_congr {T T' : Nat → Bool} : ∀ {d i : Nat}, (∀ k, i ≤ k → k < i + d → T k = T' k) → leastG T d i = leastG T' d i
  | 0, _, _ => rfl
  | d + 1, i, h => by
    unfold leastG
    rw [h i (Nat.le_refl _) (by omega), leastG_congr (d := d) (i := i + 1) fun k h1 h2 => h k (by omega) (by omega)]
theorem runG1 (bs : List UInt8) : ∀ (d i : Nat), runG bs 1 d (i : Int) 0 = match leastG (fun j => hasP bs (j : Int)) d i with | some j => ((j : Int), true) | none => (0, false)
  | 0, _ => rfl
  | d + 1, i => by
    unfold runG leastG
    by_cases h : hasP bs (i : Int) = true
    · rw [if_pos h, if_neg (by decide), if_neg (by rw [h]; decide)]
      have := runG1 bs d (i + 1)
      rw [← this]
      rfl
    · have h' : hasP bs (i : Int) = false := by simpa using h
      rw [if_neg h, if_pos (by decide), if_pos h']
      show ((i : Int) - 1 + 1, true) = ((i : Int), true)
      rw [Int.sub_add_cancel]
theorem hasP_at {bs : List UInt8} (hl : bs.length = 512) {j : Nat} (hj : j < 4096) : hasP bs (j : Int) = bitAt bs j := by
  unfold hasP isP
  rw [decide_eq_true (by omega), decide_eq_true (by rw [hl]; omega), Int.toNat_natCast]
  rfl
theorem run1_eq {bs : List UInt8} (hl : bs.length = 512) {c : Nat} (hc : c ≤ 4096) : runP bs 0 (c : Int) 1 = match leastG (bitAt bs) c 0 with | some j => ((j : Int), true) | none => (0, false) := by
  unfold runP
  rw [if_neg (by decide)]
  have e1 : (hi bs (c : Int) - lo 0).toNat = c := by
    unfold hi lo
    rw [hl]
    omega
  have e2 : lo 0 = ((0 : Nat) : Int) := rfl
  rw [e1, e2, runG1, leastG_congr (T' := bitAt bs) fun k _ h2 => hasP_at hl (by omega)]
/-- How many are taken. -/
def cntT (T : Nat → Bool) (n : Nat) : Nat := ((List.range n).filter T).length
theorem cntT_succ (T : Nat → Bool) (n : Nat) : cntT T (n + 1) = cntT T n + (if T n = true then 1 else 0) := by
  unfold cntT
  rw [List.range_succ, List.filter_append, List.length_append]
  congr 1
  simp only [List.filter_cons, List.filter_nil]
  split <;> rfl
theorem cntT_le (T : Nat → Bool) (n : Nat) : cntT T n ≤ n := by
  unfold cntT
  have := List.length_filter_le T (List.range n)
  rwa [List.length_range] at this
theorem cntT_congr {T T' : Nat → Bool} : ∀ {n : Nat}, (∀ i, i < n → T i = T' i) → cntT T n = cntT T' n
  | 0, _ => rfl
  | n + 1, h => by rw [cntT_succ, cntT_succ, h n (by omega), cntT_congr (n := n) fun i hi => h i (by omega)]
theorem cntT_add (T : Nat → Bool) (a : Nat) : ∀ c, cntT T (a + c) = cntT T a + cntT (fun i => T (a + i)) c
  | 0 => rfl
  | c + 1 => by rw [← Nat.add_assoc, cntT_succ, cntT_succ, cntT_add T a c, Nat.add_assoc]
theorem cntG_eq (bs : List UInt8) : ∀ (d i : Nat), cntG bs d (i : Int) = (cntT (fun j => hasP bs ((i + j : Nat) : Int)) d : Int)
  | 0, _ => rfl
  | d + 1, i => by
    unfold cntG
    have := cntG_eq bs d (i + 1)
    have e : ((i + 1 : Nat) : Int) = (i : Int) + 1 := by omega
    rw [e] at this
    rw [this, show d + 1 = 1 + d by omega, cntT_add]
    have e1 : cntT (fun j => hasP bs ((i + j : Nat) : Int)) 1 = if hasP bs (i : Int) = true then 1 else 0 := by
      rw [show (1 : Nat) = 0 + 1 from rfl, cntT_succ]
      show 0 + _ = _
      rw [Nat.zero_add, Nat.add_zero]
    have e2 : cntT (fun j => hasP bs ((i + (1 + j) : Nat) : Int)) d = cntT (fun j => hasP bs ((i + 1 + j : Nat) : Int)) d := cntT_congr fun j _ => by rw [Nat.add_assoc]
    rw [e1, e2]
    split <;> simp
theorem count_eq {bs : List UInt8} (hl : bs.length = 512) {c : Nat} (hc : c ≤ 4096) : countP bs 0 (c : Int) = (cntT (bitAt bs) c : Int) := by
  unfold countP
  have e1 : (hi bs (c : Int) - lo 0).toNat = c := by
    unfold hi lo
    rw [hl]
    omega
  have e2 : lo 0 = ((0 : Nat) : Int) := rfl
  rw [e1, e2, cntG_eq, cntT_congr (T' := bitAt bs) fun i hi => by rw [Nat.zero_add]; exact hasP_at hl (by omega)]
theorem turn_len (bs : List UInt8) (i : Nat) : (turn bs i).length = bs.length := List.length_set
theorem bitAt_turn {bs : List UInt8} {i : Nat} (hi : i / 8 < bs.length) (j : Nat) : bitAt (turn bs i) j = if j = i then !bitAt bs i else bitAt bs j := by
  unfold bitAt turn
  have hb : (bs.getD (i / 8) 0).toNat < 256 := UInt8.toNat_lt _
  have hx : (bs.getD (i / 8) 0).toNat ^^^ 2 ^ (i % 8) < 256 := Nat.xor_lt_two_pow (n := 8) hb (Nat.pow_lt_pow_right (by omega) (by omega))
  have hg : (bs.set (i / 8) (UInt8.ofNat ((bs.getD (i / 8) 0).toNat ^^^ 2 ^ (i % 8)))).getD (j / 8) 0 = if j / 8 = i / 8 then UInt8.ofNat ((bs.getD (i / 8) 0).toNat ^^^ 2 ^ (i % 8)) else bs.getD (j / 8) 0 := by
    rw [List.getD_eq_getElem?_getD, List.getD_eq_getElem?_getD (l := bs) (i := j / 8)]
    by_cases e : j / 8 = i / 8
    · rw [e, List.getElem?_set_self hi, if_pos rfl]
      rfl
    · rw [List.getElem?_set_ne (fun h => e h.symm), if_neg e]
  rw [hg]
  by_cases e : j / 8 = i / 8
  · rw [if_pos e]
    have hn : (UInt8.ofNat ((bs.getD (i / 8) 0).toNat ^^^ 2 ^ (i % 8))).toNat = (bs.getD (i / 8) 0).toNat ^^^ 2 ^ (i % 8) := by
      rw [UInt8.toNat_ofNat']
      exact Nat.mod_eq_of_lt hx
    rw [hn, Nat.testBit_xor, Nat.testBit_two_pow]
    by_cases e2 : j = i
    · subst e2
      rw [if_pos rfl, decide_eq_true rfl]
      simp
    · rw [if_neg e2, e, decide_eq_false (by omega), Bool.xor_false]
  · rw [if_neg e, if_neg (fun h => e (by rw [h]))]
theorem setP_free {bs : List UInt8} (hl : bs.length = 512) {i : Nat} (hi : i < 4096) (h : bitAt bs i = false) : setP bs (i : Int) = (true, turn bs i) := by
  unfold setP isP
  rw [if_pos ⟨by rw [decide_eq_true (by omega), decide_eq_true (by rw [hl]; omega)]; rfl, by rw [Int.toNat_natCast]; exact h⟩, Int.toNat_natCast]
theorem clearP_eq {bs : List UInt8} (hl : bs.length = 512) {i : Nat} (hi : i < 4096) : clearP bs (i : Int) = if bitAt bs i = true then (true, turn bs i) else (false, bs) := by
  unfold clearP
  rw [hasP_at hl hi, Int.toNat_natCast]
/-- The blocks at bk tell which of n numbers are taken, from block m on. -/
def PB (bk : Nat → List UInt8) (m n : Nat) (T : Nat → Bool) : Prop := ∀ i, i < n → bitAt (bk (m + i / 4096)) (i % 4096) = T i
/-- What a transaction reads. -/
def tvw (x : Lk) (V : Nat → List UInt8) (t : Tk) (n : Nat) : List UInt8 := (t.m n).getD (datP x V n)
theorem tvw_put (x : Lk) (V : Nat → List UInt8) (t : Tk) (k : Nat) (bs : List UInt8) (n : Nat) : tvw x V (tput t k bs) n = if n = k then bs else tvw x V t n := by
  show ((if n = k then some bs else t.m n) : Option (List UInt8)).getD _ = _
  split <;> rfl
theorem tvw_len {N : Nat} {x : Lk} {V : Nat → List UInt8} {t : Tk} (h : LA N x V) (ht : TOk (N - 65) t) {n : Nat} (hn : n < N - 65) : (tvw x V t n).length = 512 := by
  unfold tvw
  cases hm : t.m n with
  | none => exact h.d5 hn
  | some b => exact (ht.wl n b hm).2
theorem treadP_tvw {N : Nat} {x : Lk} {V : Nat → List UInt8} {t : Tk} (h : LA N x V) (hN : 65 < N) (ho : t.ov = false) {n : Nat} (hn : n < N - 65) : treadP x t (n : Int) = (0, tvw x V t n) := by
  unfold treadP tvw
  rw [if_neg (by rw [ho]; decide)]
  have hfI : fI t.m (n : Int) = t.m n := by unfold fI; rw [if_pos (by omega), Int.toNat_natCast]
  rw [hfI]
  cases hm : t.m n with
  | some b => rfl
  | none =>
    show (lreadE x n, lvalP x _) = _
    rw [h.readE hN, if_neg (by omega), Int.toNat_natCast, h.val hn]
    rfl
/-- The blocks that it has written are of these. -/
def TSub (bl : List Nat) (t : Tk) : Prop := ∀ j, (t.m j).isSome = true → j ∈ bl
theorem nodup_sub : ∀ (a b : List Nat), a.Nodup → (∀ x ∈ a, x ∈ b) → a.length ≤ b.length
  | [], _, _, _ => Nat.zero_le _
  | x :: a, b, hn, hs => by
    have hx := hs x List.mem_cons_self
    have hn2 := List.nodup_cons.1 hn
    have := nodup_sub a (b.erase x) hn2.2 fun y hy => (List.mem_erase_of_ne (by intro e; subst e; exact hn2.1 hy)).2 (hs y (List.mem_cons_of_mem _ hy))
    rw [List.length_erase_of_mem hx] at this
    have hb : 0 < b.length := List.length_pos_of_mem hx
    simp only [List.length_cons]
    omega
theorem TSub.write {B : Nat} {bl : List Nat} {t : Tk} (h : TSub bl t) {k : Nat} (hk : k ∈ bl) (hl : bl.length ≤ 63) (hB : k < B) (ho : t.ov = false) {bs : List UInt8} (hb : bs.length = 512) : twriteP B t (k : Int) bs = (0, tput t k bs) ∧ TSub bl (tput t k bs) := by
  have e : twriteE B t (k : Int) bs = 0 := by
    unfold twriteE
    rw [if_neg (by omega), if_neg (by rw [ho]; decide), if_neg]
    rintro ⟨h1, h2⟩
    have hfI : fI t.m (k : Int) = t.m k := by unfold fI; rw [if_pos (by omega), Int.toNat_natCast]
    rw [hfI] at h1
    have := nodup_sub (ksW B t.m) (bl.erase k) (ksW_nodup _ _) fun y hy => by
      have hy2 := (mem_ksW.1 hy).2
      exact (List.mem_erase_of_ne (fun e => by rw [e, h1] at hy2; cases hy2)).2 (h y hy2)
    rw [List.length_erase_of_mem hk] at this
    have hp : 0 < bl.length := List.length_pos_of_mem hk
    omega
  unfold twriteP
  rw [e, if_pos rfl, Int.toNat_natCast]
  refine ⟨rfl, fun j hj => ?_⟩
  have hj : ((if j = k then some bs else t.m j) : Option (List UInt8)).isSome = true := hj
  by_cases e2 : j = k
  · rw [e2]; exact hk
  · rw [if_neg e2] at hj
    exact h j hj
theorem TOk.put {B : Nat} {bl : List Nat} {t : Tk} (h : TOk B t) (hs : TSub bl t) {k : Nat} (hk : k ∈ bl) (hl : bl.length ≤ 63) (hB : k < B) {bs : List UInt8} (hb : bs.length = 512) (ho : t.ov = false) : TOk B (tput t k bs) := by
  refine ⟨fun n b e => ?_, ?_⟩
  · have e : (if n = k then some bs else t.m n) = some b := e
    split at e
    · rename_i e1
      injection e with e2
      subst e1 e2
      exact ⟨hB, hb⟩
    · exact h.wl n b e
  · have h2 := (hs.write hk hl hB ho hb).2
    exact Nat.le_trans (nodup_sub _ bl (ksW_nodup _ _) fun y hy => h2 y (mem_ksW.1 hy).2) hl
/-- The pool's numbers, one more taken or given back. -/
theorem PB.flip {bk : Nat → List UInt8} {m n : Nat} {T : Nat → Bool} (h : PB bk m n T) {i : Nat} (hi : i < n) (hl : (bk (m + i / 4096)).length = 512) : PB (fun k => if k = m + i / 4096 then turn (bk (m + i / 4096)) (i % 4096) else bk k) m n (fun j => if j = i then !T i else T j) := fun j hj => by
  show bitAt (if m + j / 4096 = m + i / 4096 then turn (bk (m + i / 4096)) (i % 4096) else bk (m + j / 4096)) (j % 4096) = if j = i then !T i else T j
  by_cases e : j / 4096 = i / 4096
  · rw [if_pos (by rw [e]), bitAt_turn (by rw [hl]; omega)]
    by_cases e2 : j = i
    · subst e2
      rw [if_pos rfl, if_pos rfl, h j hj]
    · rw [if_neg (by omega), if_neg e2, ← h j hj, e]
  · rw [if_neg (by omega), if_neg (fun h => e (by rw [h])), h j hj]
end Go.Proofs.Ytefbmbfhhhjgkaa
