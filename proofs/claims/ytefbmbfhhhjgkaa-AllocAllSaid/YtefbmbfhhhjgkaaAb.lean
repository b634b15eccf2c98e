/- Maps of bits: their calls. -/
import Derived.Test.YtefbmbfhhhjgkaaWlb
import Derived.Laws.MakeOwn
namespace Go.Proofs.Ytefbmbfhhhjgkaa
open Go.RowKit
/-- Bit i of a map. -/
def bitAt (bs : List UInt8) (i : Nat) : Bool := (bs.getD (i / 8) 0).toNat.testBit (i % 8)
def isP (bs : List UInt8) (i : Int) : Bool := decide (0 ≤ i) && decide (i / 8 < (bs.length : Int))
def hasP (bs : List UInt8) (i : Int) : Bool := isP bs i && bitAt bs i.toNat
set_option maxRecDepth 10000 in
set_option maxHeartbeats 400000 in
theorem is_calls (w : World) (x : Value) (bs : List UInt8) (i : Int) (hx : Rd w x (bvs bs)) (hl : bs.length ≤ 1000000000000) (h1 : -9223372036854775808 ≤ i) (h2 : i ≤ 9223372036854775807) :
    Calls Try.prog 72 #[x, .int .i64 i] w fun e w' => e = .returned (.bool (isP bs i)) ∧ w = w' := by
  obtain ⟨A, c, rfl⟩ := hx.shape8
  unfold isP
  by_cases h0 : 0 ≤ i
  · have hd : decide (0 ≤ i) = true := decide_eq_true h0
    go_enter Try.func72, Try.ntmps72
    go_wp2
    go_ret
    refine ⟨?_, rfl⟩
    show Ending.returned (.bool (decide (i / 8 < (bs.length : Int)))) = _
    rw [hd, Bool.true_and]
  · have hd : decide (0 ≤ i) = false := decide_eq_false h0
    go_enter Try.func72, Try.ntmps72
    go_wp2
    go_ret
    simp
set_option maxRecDepth 10000 in
set_option maxHeartbeats 400000 in
theorem has_calls (w : World) (x : Value) (bs : List UInt8) (i : Int) (hx : Rd w x (bvs bs)) (hl : bs.length ≤ 1000000000000) (h1 : -9223372036854775808 ≤ i) (h2 : i ≤ 9223372036854775807) :
    Calls Try.prog 44 #[x, .int .i64 i] w fun e w' => e = .returned (.bool (hasP bs i)) ∧ w = w' := by
  have hx0 := hx
  obtain ⟨A, c, rfl⟩ := hx.shape8
  unfold hasP
  have HI := Lib.hid (is_calls w _ bs i hx0 hl h1 h2)
  by_cases hp : isP bs i = true
  · rw [hp] at HI ⊢
    have hp' := hp
    simp only [isP, Bool.and_eq_true, decide_eq_true_eq] at hp'
    obtain ⟨h0, hq⟩ := hp'
    obtain ⟨m, rfl⟩ := Int.eq_ofNat_of_zero_le h0
    rw [Int.toNat_natCast]
    have hq2 : m / 8 < bs.length := by omega
    obtain ⟨ad, rfl, hc⟩ := hx0.at8a hq2
    unfold bv at hc
    have hbit : bitAt bs m = bs[m / 8].toNat.testBit (m % 8) := by unfold bitAt; rw [List.getD_eq_getElem?_getD, List.getElem?_eq_getElem hq2]; rfl
    have HB := Lib.hid hbit
    generalize hv : bs[m / 8].toNat = v at *
    have hv2 : v < 256 := by rw [← hv]; exact bs[m / 8].toNat_lt
    clear hv hbit hp
    obtain ⟨q, hq1⟩ : ∃ q, q = m / 8 := ⟨_, rfl⟩
    rw [← hq1] at hc hq2
    have hqe : (m : Int) / 8 = (q : Int) := by omega
    clear hq1
    obtain ⟨r, hr⟩ : ∃ r, r = m % 8 := ⟨_, rfl⟩
    rw [← hr] at HB
    have hr8 : r < 8 := by omega
    have hre : bits .and .i64 (m : Int) 7 = (r : Int) := by
      rw [show (7 : Int) = ((7 : Nat) : Int) from rfl, bits_and_i64 m 7 (by omega) (by omega), hr]
      congr 1
      exact Nat.and_two_pow_sub_one_eq_mod m 3
    clear hr
    have hb1 : bits .and .u8 ((v : Int) / 2 ^ r) 1 = if v.testBit r then 1 else 0 := by
      rw [show ((v : Int) / 2 ^ r) = ((v / 2 ^ r : Nat) : Int) from by rw [Int.natCast_ediv, Int.natCast_pow]; rfl, show (1 : Int) = ((1 : Nat) : Int) from rfl,
        bits_and_u8 _ 1 (Nat.lt_of_le_of_lt (Nat.div_le_self _ _) hv2) (by omega), Nat.and_one_is_mod, Nat.testBit_eq_decide_div_mod_eq]
      by_cases h : v / 2 ^ r % 2 = 1
      · simp [h]
      · rw [show v / 2 ^ r % 2 = 0 by omega]; simp
    have HBB := HB.out
    cases hbv : v.testBit r with
    | true =>
      rw [hbv] at hb1 HBB
      simp only [if_true] at hb1
      rw [HBB]
      clear hbv HB HBB
      go_enter Try.func44, Try.ntmps44
      go_wp2_with fail
      refine HI.out.mono ?_
      rintro e w1 ⟨rfl, rfl⟩
      go_wp2
      go_ret
      exact ⟨rfl, rfl⟩
    | false =>
      rw [hbv] at hb1 HBB
      simp only [Bool.false_eq_true, if_false] at hb1
      rw [HBB]
      clear hbv HB HBB
      go_enter Try.func44, Try.ntmps44
      go_wp2_with fail
      refine HI.out.mono ?_
      rintro e w1 ⟨rfl, rfl⟩
      go_wp2
      go_ret
      exact ⟨rfl, rfl⟩
  · have hp : isP bs i = false := by simpa using hp
    rw [hp] at HI ⊢
    clear hp
    go_enter Try.func44, Try.ntmps44
    go_wp2_with fail
    refine HI.out.mono ?_
    rintro e w1 ⟨rfl, rfl⟩
    go_wp2
    go_ret
    exact ⟨rfl, rfl⟩
end Go.Proofs.Ytefbmbfhhhjgkaa
namespace Go.Proofs.Ytefbmbfhhhjgkaa
open Go.RowKit
theorem Own8.rd {w : World} {v : Value} {xs : List UInt8} (h : Own8 w v xs) : Rd w v (bvs xs) := Rd.of_own h
/-- What Set and Clear leave: bit i turned. -/
def turn (bs : List UInt8) (i : Nat) : List UInt8 := bs.set (i / 8) (UInt8.ofNat ((bs.getD (i / 8) 0).toNat ^^^ 2 ^ (i % 8)))
def setP (bs : List UInt8) (i : Int) : Bool × List UInt8 := if isP bs i = true ∧ bitAt bs i.toNat = false then (true, turn bs i.toNat) else (false, bs)
def clearP (bs : List UInt8) (i : Int) : Bool × List UInt8 := if hasP bs i = true then (true, turn bs i.toNat) else (false, bs)
def MapOut (w : World) (v : Value) (o : Bool × List UInt8) (e : Ending) (w' : World) : Prop :=
  e = .returned (.bool o.1) ∧ Own8 w' v o.2 ∧ Chg (fun k => v.ownBlock = some k) w w'
theorem or_bit (v r : Nat) (h : v.testBit r = false) : v ||| 2 ^ r = v ^^^ 2 ^ r := by
  apply Nat.eq_of_testBit_eq
  intro j
  rw [Nat.testBit_or, Nat.testBit_xor, Nat.testBit_two_pow]
  by_cases hj : r = j
  · subst hj; simp [h]
  · simp [hj]
theorem xor_lt8 (v r : Nat) (hv : v < 256) (hr : r < 8) : v ^^^ 2 ^ r < 256 :=
  Nat.xor_lt_two_pow (n := 8) (by omega) (Nat.pow_lt_pow_right (by omega) hr)
theorem turn_at {bs : List UInt8} {m : Nat} (h : m / 8 < bs.length) : turn bs m = bs.set (m / 8) (UInt8.ofNat (bs[m / 8].toNat ^^^ 2 ^ (m % 8))) := by
  unfold turn
  rw [List.getD_eq_getElem?_getD, List.getElem?_eq_getElem h]; rfl
theorem ofNat_toNat8 (n : Nat) (h : n < 256) : (UInt8.ofNat n).toNat = n := by simp; omega
theorem pow8_lt (r : Nat) (h : r < 8) : 2 ^ r < 256 := Nat.pow_lt_pow_right (by omega) h
theorem pow_cast (r : Nat) : (2 : Int) ^ r = ((2 ^ r : Nat) : Int) := by rw [Int.natCast_pow]; rfl
theorem pow8_wrap (r : Nat) (h : r < 8) : IntKind.u8.wrap (2 ^ r) = 2 ^ r := by
  have := pow8_lt r h
  rw [pow_cast, IntKind.wrap_u8]
  generalize 2 ^ r = p at *
  omega
set_option maxRecDepth 10000 in
set_option maxHeartbeats 400000 in
theorem set_calls (w : World) (x : Value) (bs : List UInt8) (i : Int) (hx : Own8 w x bs) (hl : bs.length ≤ 1000000000000) (h1 : -9223372036854775808 ≤ i) (h2 : i ≤ 9223372036854775807) :
    Calls Try.prog 38 #[x, .int .i64 i] w (MapOut w x (setP bs i)) := by
  have HI := Lib.hid (is_calls w _ bs i hx.rd hl h1 h2)
  have HH := Lib.hid (has_calls w _ bs i hx.rd hl h1 h2)
  unfold setP
  by_cases hp : isP bs i = true
  · have hp' := hp
    simp only [isP, Bool.and_eq_true, decide_eq_true_eq] at hp'
    obtain ⟨h0, hq⟩ := hp'
    obtain ⟨m, rfl⟩ := Int.eq_ofNat_of_zero_le h0
    rw [Int.toNat_natCast]
    have hh : hasP bs (m : Int) = bitAt bs m := by unfold hasP; rw [hp, Bool.true_and, Int.toNat_natCast]
    rw [hh] at HH
    rw [hp] at HI
    have hq2 : m / 8 < bs.length := by omega
    obtain ⟨g, cap, rfl⟩ := hx.form (by omega)
    cases hbit : bitAt bs m with
    | true =>
      rw [if_neg (by simp)]
      rw [hbit] at HH
      clear hh hbit hp
      go_enter Try.func38, Try.ntmps38
      go_wp2_with fail
      refine HI.out.mono ?_
      rintro e w1 ⟨rfl, rfl⟩
      go_wp2_with fail
      refine HH.out.mono ?_
      rintro e w1 ⟨rfl, rfl⟩
      go_wp2
      go_ret
      exact ⟨rfl, hx, Chg.refl _ _⟩
    | false =>
      rw [if_pos ⟨hp, rfl⟩]
      rw [hbit] at HH
      have hbit2 : bs[m / 8].toNat.testBit (m % 8) = false := by
        have := hbit
        unfold bitAt at this
        rw [List.getD_eq_getElem?_getD, List.getElem?_eq_getElem hq2] at this
        exact this
      have hor := or_bit _ _ hbit2
      rw [turn_at hq2]
      obtain ⟨ad, e, hc⟩ := hx.rd.at8a hq2
      have hf := World.ownsRow.frozenAt hx (m / 8)
      have hput := hx.put rfl (m / 8) (UInt8.ofNat (bs[m / 8].toNat ^^^ 2 ^ (m % 8)))
      injection e with e
      subst e
      rw [addr_add_at, Nat.zero_add] at hc
      have hv2 : bs[m / 8].toNat < 256 := bs[m / 8].toNat_lt
      unfold bv at hc hput
      rw [ofNat_toNat8 _ (xor_lt8 _ _ hv2 (by omega))] at hput
      obtain ⟨us, hus⟩ : ∃ us, us = bs.set (m / 8) (UInt8.ofNat (bs[m / 8].toNat ^^^ 2 ^ (m % 8))) := ⟨_, rfl⟩
      rw [← hus] at hput ⊢
      obtain ⟨r, hr⟩ : ∃ r, r = m % 8 := ⟨_, rfl⟩
      have hr8 : r < 8 := by omega
      have hre : bits .and .i64 (m : Int) 7 = (r : Int) := by
        rw [show (7 : Int) = ((7 : Nat) : Int) from rfl, bits_and_i64 m 7 (by omega) (by omega), hr]
        congr 1
        exact Nat.and_two_pow_sub_one_eq_mod m 3
      rw [← hr] at hput hor
      clear hus hbit2 hbit hh hr
      generalize bs[m / 8].toNat = v at *
      obtain ⟨q, hq1⟩ : ∃ q, q = m / 8 := ⟨_, rfl⟩
      rw [← hq1] at hc hq2 hput hf
      have hqe : (m : Int) / 8 = (q : Int) := by omega
      clear hq1 hp
      have hsh := pow8_wrap r hr8
      obtain ⟨y, hy⟩ : ∃ y, y = v ^^^ 2 ^ r := ⟨_, rfl⟩
      have hor2 : bits .or .u8 (v : Int) (2 ^ r) = (y : Int) := by
        rw [pow_cast, bits_or_u8 _ _ hv2 (pow8_lt r hr8), hor, hy]
      rw [← hy] at hput
      clear hor hy
      go_enter Try.func38, Try.ntmps38
      go_wp2_with fail
      refine HI.out.mono ?_
      rintro e w1 ⟨rfl, rfl⟩
      go_wp2_with fail
      refine HH.out.mono ?_
      rintro e w1 ⟨rfl, rfl⟩
      go_wp2
      refine wp_mix_tail (fun W => W.cell? ⟨g, q, none⟩ = some (.int .u8 v)) [10] (by kernel_rfl) (by kernel_rfl) (by kernel_rfl) (by kernel_rfl) hc ?_
      iterate 8 (refine mixq rfl rfl ?_ (fun w' hw' => Or.inl ?_) (fun K hK => ?_); rotate_left; (focus (have c0 : w'.cell? ⟨g, q, none⟩ = some (.int .u8 v) := hw'; go_simp; rfl)); go_simp; refine hK _ ?_; clear hK K)
      refine mixq rfl rfl ?_ (fun w' hw' => Or.inl ?_) (fun K hK => ?_); rotate_left; (focus (go_simp; rfl)); go_simp; refine hK _ ?_; clear hK K
      refine mixq rfl rfl ?_ (fun w' hw' => Or.inl ?_) (fun K hK => ?_); rotate_left; (focus (go_simp; rfl)); go_simp; refine hK _ ?_; clear hK K
      refine mixl rfl rfl (fun K hK => ?_)
      go_simp
      refine hK _ _ (fun hf => (by cases hf)) (mix_nil ?_)
      clear hK K
      go_wp2
      go_ret
      exact ⟨rfl, hput, ((Chg.refl (fun k => (Value.slice (some ⟨g, 0, none⟩) bs.length cap).ownBlock = some k) w).drew).setCell (p := ⟨g, q, none⟩) (fun _ => rfl) _⟩
  · have hp : isP bs i = false := by simpa using hp
    rw [if_neg (fun h => by rw [hp] at h; exact absurd h.1 (by simp))]
    rw [hp] at HI
    clear hp HH
    go_enter Try.func38, Try.ntmps38
    go_wp2_with fail
    refine HI.out.mono ?_
    rintro e w1 ⟨rfl, rfl⟩
    go_wp2
    go_ret
    exact ⟨rfl, hx, Chg.refl _ _⟩
theorem andnot_bit (v r : Nat) (hv : v < 256) (hr : r < 8) (h : v.testBit r = true) : bits .andNot .u8 (v : Int) ((2 ^ r : Nat) : Int) = ((v ^^^ 2 ^ r : Nat) : Int) := by
  have hp := pow8_lt r hr
  have hx := xor_lt8 v r hv hr
  show IntKind.u8.wrap ((BitVec.ofInt 8 (v : Int) &&& ~~~ BitVec.ofInt 8 ((2 ^ r : Nat) : Int)).toNat : Int) = _
  have e : BitVec.ofInt 8 (v : Int) &&& ~~~ BitVec.ofInt 8 ((2 ^ r : Nat) : Int) = BitVec.ofInt 8 (v : Int) ^^^ BitVec.ofInt 8 ((2 ^ r : Nat) : Int) := by
    apply BitVec.eq_of_getLsbD_eq
    intro i hi
    rw [BitVec.getLsbD_and, BitVec.getLsbD_not, BitVec.getLsbD_xor]
    simp only [hi, decide_true, Bool.true_and]
    have e1 : (BitVec.ofInt 8 (v : Int)).getLsbD i = v.testBit i := by unfold BitVec.getLsbD; rw [ofInt8_nat v hv]
    have e2 : (BitVec.ofInt 8 ((2 ^ r : Nat) : Int)).getLsbD i = (2 ^ r).testBit i := by unfold BitVec.getLsbD; rw [ofInt8_nat _ hp]
    rw [e1, e2, Nat.testBit_two_pow]
    by_cases hri : r = i
    · subst hri; simp [h]
    · simp [hri]
  rw [e, BitVec.toNat_xor, ofInt8_nat v hv, ofInt8_nat _ hp, IntKind.wrap_u8]
  omega
set_option maxRecDepth 10000 in
set_option maxHeartbeats 400000 in
theorem clear_calls (w : World) (x : Value) (bs : List UInt8) (i : Int) (hx : Own8 w x bs) (hl : bs.length ≤ 1000000000000) (h1 : -9223372036854775808 ≤ i) (h2 : i ≤ 9223372036854775807) :
    Calls Try.prog 40 #[x, .int .i64 i] w (MapOut w x (clearP bs i)) := by
  have HH := Lib.hid (has_calls w _ bs i hx.rd hl h1 h2)
  unfold clearP
  by_cases hp0 : hasP bs i = true
  · rw [if_pos hp0]
    rw [hp0] at HH
    have hp := hp0
    unfold hasP at hp
    rw [Bool.and_eq_true] at hp
    obtain ⟨hp, hbit⟩ := hp
    simp only [isP, Bool.and_eq_true, decide_eq_true_eq] at hp
    obtain ⟨h0, hq⟩ := hp
    obtain ⟨m, rfl⟩ := Int.eq_ofNat_of_zero_le h0
    rw [Int.toNat_natCast] at hbit ⊢
    have hq2 : m / 8 < bs.length := by omega
    obtain ⟨g, cap, rfl⟩ := hx.form (by omega)
    have hbit2 : bs[m / 8].toNat.testBit (m % 8) = true := by
      have := hbit
      unfold bitAt at this
      rw [List.getD_eq_getElem?_getD, List.getElem?_eq_getElem hq2] at this
      exact this
    rw [turn_at hq2]
    obtain ⟨ad, e, hc⟩ := hx.rd.at8a hq2
    have hf := World.ownsRow.frozenAt hx (m / 8)
    have hput := hx.put rfl (m / 8) (UInt8.ofNat (bs[m / 8].toNat ^^^ 2 ^ (m % 8)))
    injection e with e
    subst e
    rw [addr_add_at, Nat.zero_add] at hc
    have hv2 : bs[m / 8].toNat < 256 := bs[m / 8].toNat_lt
    unfold bv at hc hput
    rw [ofNat_toNat8 _ (xor_lt8 _ _ hv2 (by omega))] at hput
    obtain ⟨us, hus⟩ : ∃ us, us = bs.set (m / 8) (UInt8.ofNat (bs[m / 8].toNat ^^^ 2 ^ (m % 8))) := ⟨_, rfl⟩
    rw [← hus] at hput ⊢
    obtain ⟨r, hr⟩ : ∃ r, r = m % 8 := ⟨_, rfl⟩
    have hr8 : r < 8 := by omega
    have hre : bits .and .i64 (m : Int) 7 = (r : Int) := by
      rw [show (7 : Int) = ((7 : Nat) : Int) from rfl, bits_and_i64 m 7 (by omega) (by omega), hr]
      congr 1
      exact Nat.and_two_pow_sub_one_eq_mod m 3
    rw [← hr] at hput hbit2
    clear hus hbit hr hp0
    generalize bs[m / 8].toNat = v at *
    obtain ⟨q, hq1⟩ : ∃ q, q = m / 8 := ⟨_, rfl⟩
    rw [← hq1] at hc hq2 hput hf
    have hqe : (m : Int) / 8 = (q : Int) := by omega
    clear hq1
    have hsh := pow8_wrap r hr8
    obtain ⟨y, hy⟩ : ∃ y, y = v ^^^ 2 ^ r := ⟨_, rfl⟩
    have hor2 : bits .andNot .u8 (v : Int) (2 ^ r) = (y : Int) := by
      rw [pow_cast, andnot_bit _ _ hv2 hr8 hbit2, hy]
    rw [← hy] at hput
    clear hy hbit2
    go_enter Try.func40, Try.ntmps40
    go_wp2_with fail
    refine HH.out.mono ?_
    rintro e w1 ⟨rfl, rfl⟩
    go_wp2
    refine wp_mix_tail (fun W => W.cell? ⟨g, q, none⟩ = some (.int .u8 v)) [10] (by kernel_rfl) (by kernel_rfl) (by kernel_rfl) (by kernel_rfl) hc ?_
    iterate 8 (refine mixq rfl rfl ?_ (fun w' hw' => Or.inl ?_) (fun K hK => ?_); rotate_left; (focus (have c0 : w'.cell? ⟨g, q, none⟩ = some (.int .u8 v) := hw'; go_simp; rfl)); go_simp; refine hK _ ?_; clear hK K)
    refine mixq rfl rfl ?_ (fun w' hw' => Or.inl ?_) (fun K hK => ?_); rotate_left; (focus (go_simp; rfl)); go_simp; refine hK _ ?_; clear hK K
    refine mixq rfl rfl ?_ (fun w' hw' => Or.inl ?_) (fun K hK => ?_); rotate_left; (focus (go_simp; rfl)); go_simp; refine hK _ ?_; clear hK K
    refine mixl rfl rfl (fun K hK => ?_)
    go_simp
    refine hK _ _ (fun hf => (by cases hf)) (mix_nil ?_)
    clear hK K
    go_wp2
    go_ret
    exact ⟨rfl, hput, ((Chg.refl (fun k => (Value.slice (some ⟨g, 0, none⟩) bs.length cap).ownBlock = some k) w).drew).setCell (p := ⟨g, q, none⟩) (fun _ => rfl) _⟩
  · have hp : hasP bs i = false := by simpa using hp0
    rw [if_neg hp0]
    rw [hp] at HH
    clear hp hp0
    go_enter Try.func40, Try.ntmps40
    go_wp2_with fail
    refine HH.out.mono ?_
    rintro e w1 ⟨rfl, rfl⟩
    go_wp2
    go_ret
    exact ⟨rfl, hx, Chg.refl _ _⟩
end Go.Proofs.Ytefbmbfhhhjgkaa
namespace Go.Proofs.Ytefbmbfhhhjgkaa
open Go.RowKit
/-- From place i on, d places, with so many free ones ahead. -/
def runG (bs : List UInt8) (n : Int) : Nat → Int → Int → Int × Bool
  | 0, _, _ => (0, false)
  | d + 1, i, row => if (if hasP bs i = true then 0 else row + 1) = n then (i - n + 1, true) else runG bs n d (i + 1) (if hasP bs i = true then 0 else row + 1)
def lo (a : Int) : Int := max a 0
def hi (bs : List UInt8) (b : Int) : Int := min b (8 * (bs.length : Int))
def runP (bs : List UInt8) (a b n : Int) : Int × Bool := if n < 1 then (0, false) else runG bs n (hi bs b - lo a).toNat (lo a) 0
def cntG (bs : List UInt8) : Nat → Int → Int
  | 0, _ => 0
  | d + 1, i => (if hasP bs i = true then 1 else 0) + cntG bs d (i + 1)
def countP (bs : List UInt8) (a b : Int) : Int := cntG bs (hi bs b - lo a).toNat (lo a)
set_option maxRecDepth 10000 in
set_option maxHeartbeats 400000 in
theorem run_calls (w : World) (x : Value) (bs : List UInt8) (a b n : Int) (hx : Rd w x (bvs bs)) (hl : bs.length ≤ 1000000000000)
    (a1 : -9223372036854775808 ≤ a) (a2 : a ≤ 9223372036854775807) (b1 : -9223372036854775808 ≤ b) (b2 : b ≤ 9223372036854775807) (n1 : -9223372036854775808 ≤ n) (n2 : n ≤ 9223372036854775807) :
    Calls Try.prog 71 #[x, .int .i64 a, .int .i64 b, .int .i64 n] w fun e w' => e = .returned (.tuple #[.int .i64 (runP bs a b n).1, .bool (runP bs a b n).2]) ∧ w = w' := by
  have hx0 := hx
  obtain ⟨A, c, rfl⟩ := hx.shape8
  by_cases hn : n < 1
  · have hr : runP bs a b n = (0, false) := by simp [runP, hn]
    rw [hr]
    clear hr
    go_enter Try.func71, Try.ntmps71
    go_wp2
    go_ret2
    exact ⟨rfl, rfl⟩
  · have hr : runP bs a b n = runG bs n (hi bs b - lo a).toNat (lo a) 0 := by simp [runP, hn]
    rw [hr]
    clear hr
    have m1 := run_imax (P := Try.prog) a 0
    have m2 := run_imin (P := Try.prog) b (8 * (bs.length : Int))
    have L1 : 0 ≤ lo a := by unfold lo; omega
    have L2 : lo a ≤ 9223372036854775807 := by unfold lo; omega
    have H1 : hi bs b ≤ 8 * (bs.length : Int) := by unfold hi; omega
    have H2 : -9223372036854775808 ≤ hi bs b := by unfold hi; omega
    rw [show imax a 0 = lo a from rfl] at m1
    rw [show imin b (8 * (bs.length : Int)) = hi bs b from rfl] at m2
    generalize lo a = l at *
    generalize hi bs b = h at *
    obtain ⟨R, hR⟩ : ∃ R, R = runG bs n (h - l).toNat l 0 := ⟨_, rfl⟩
    rw [← hR]
    have HR := Lib.hid hR
    clear hR a1 a2
    go_enter Try.func71, Try.ntmps71
    go_wp2
    go_loop [10, 11] (fun r i => ∃ (row j : Int), 0 ≤ row ∧ row ≤ j ∧ l ≤ j ∧ j ≤ 9223372036854775807 ∧ r = .int .i64 row ∧ i = .int .i64 j ∧ Hid (R = runG bs n (h - j).toNat j row)) (fun _ i => (h - intOf i).toNat)
    case atStart => exact ⟨0, l, by omega, by omega, by omega, L2, rfl, rfl, HR⟩
    case round =>
      obtain ⟨row, j, r1, r2, j1, j2, rfl, rfl, HQ⟩ := hrel
      by_cases hlt : j < h
      · have HS : Hid (R = if (if hasP bs j = true then 0 else row + 1) = n then (j - n + 1, true) else runG bs n (h - (j + 1)).toNat (j + 1) (if hasP bs j = true then 0 else row + 1)) := by
          have := HQ.out
          rw [show (h - j).toNat = (h - (j + 1)).toNat + 1 from by omega] at this
          exact this
        clear HQ
        have HC := Lib.hid (has_calls w _ bs j hx0 hl (by omega) (by omega))
        cases hb : hasP bs j with
        | true =>
          simp only [hb, if_true] at HS HC
          rw [if_neg (by omega)] at HS
          clear hb
          have hz : ((0 : Int) == n) = false := by simp; omega
          go_wp2_with fail
          refine HC.out.mono ?_
          rintro e w1 ⟨rfl, rfl⟩
          go_wp2
          go_round
          case rel => exact ⟨0, j + 1, by omega, by omega, by omega, by omega, rfl, rfl, HS⟩
          case measure => simp [intOf]; omega
        | false =>
          simp only [hb, Bool.false_eq_true, if_false] at HS HC
          clear hb
          by_cases hz : row + 1 = n
          · rw [if_pos hz] at HS
            have hzb : (row + 1 == n) = true := by simpa using hz
            clear hz
            go_wp2_with fail
            refine HC.out.mono ?_
            rintro e w1 ⟨rfl, rfl⟩
            go_wp2
            go_ret2
            rw [HS.out]
            exact ⟨rfl, rfl⟩
          · rw [if_neg hz] at HS
            have hzb : (row + 1 == n) = false := by simpa using hz
            clear hz
            go_wp2_with fail
            refine HC.out.mono ?_
            rintro e w1 ⟨rfl, rfl⟩
            go_wp2
            go_round
            case rel => exact ⟨row + 1, j + 1, by omega, by omega, by omega, by omega, rfl, rfl, HS⟩
            case measure => simp [intOf]; omega
      · have HE : Hid (R = (0, false)) := by
          have := HQ.out
          rw [show (h - j).toNat = 0 from by omega] at this
          exact this
        go_wp2
        go_ret2
        rw [HE.out]
        exact ⟨rfl, rfl⟩
end Go.Proofs.Ytefbmbfhhhjgkaa
namespace Go.Proofs.Ytefbmbfhhhjgkaa
open Go.RowKit
set_option maxRecDepth 10000 in
set_option maxHeartbeats 400000 in
theorem count_calls (w : World) (x : Value) (bs : List UInt8) (a b : Int) (hx : Rd w x (bvs bs)) (hl : bs.length ≤ 1000000000000)
    (a1 : -9223372036854775808 ≤ a) (a2 : a ≤ 9223372036854775807) (b1 : -9223372036854775808 ≤ b) (b2 : b ≤ 9223372036854775807) :
    Calls Try.prog 42 #[x, .int .i64 a, .int .i64 b] w fun e w' => e = .returned (.int .i64 (countP bs a b)) ∧ w = w' := by
  have hx0 := hx
  obtain ⟨A, c, rfl⟩ := hx.shape8
  have m1 := run_imax (P := Try.prog) a 0
  have m2 := run_imin (P := Try.prog) b (8 * (bs.length : Int))
  have L1 : 0 ≤ lo a := by unfold lo; omega
  have L2 : lo a ≤ 9223372036854775807 := by unfold lo; omega
  have H1 : hi bs b ≤ 8 * (bs.length : Int) := by unfold hi; omega
  have H2 : -9223372036854775808 ≤ hi bs b := by unfold hi; omega
  rw [show imax a 0 = lo a from rfl] at m1
  rw [show imin b (8 * (bs.length : Int)) = hi bs b from rfl] at m2
  unfold countP
  generalize lo a = l at *
  generalize hi bs b = h at *
  obtain ⟨R, hR⟩ : ∃ R, R = cntG bs (h - l).toNat l := ⟨_, rfl⟩
  rw [← hR]
  have HR : Hid (R = 0 + cntG bs (h - l).toNat l) := by show _ = _; rw [hR]; omega
  clear hR a1 a2
  go_enter Try.func42, Try.ntmps42
  go_wp2
  go_loop [7, 8] (fun r i => ∃ (k j : Int), 0 ≤ k ∧ k ≤ j ∧ l ≤ j ∧ j ≤ 9223372036854775807 ∧ r = .int .i64 k ∧ i = .int .i64 j ∧ Hid (R = k + cntG bs (h - j).toNat j)) (fun _ i => (h - intOf i).toNat)
  case atStart => exact ⟨0, l, by omega, by omega, by omega, L2, rfl, rfl, HR⟩
  case round =>
    obtain ⟨k, j, r1, r2, j1, j2, rfl, rfl, HQ⟩ := hrel
    by_cases hlt : j < h
    · have HS : Hid (R = k + ((if hasP bs j = true then 1 else 0) + cntG bs (h - (j + 1)).toNat (j + 1))) := by
        have := HQ.out
        rw [show (h - j).toNat = (h - (j + 1)).toNat + 1 from by omega] at this
        exact this
      clear HQ
      have HC := Lib.hid (has_calls w _ bs j hx0 hl (by omega) (by omega))
      cases hb : hasP bs j with
      | true =>
        simp only [hb, if_true] at HS HC
        clear hb
        go_wp2_with fail
        refine HC.out.mono ?_
        rintro e w1 ⟨rfl, rfl⟩
        go_wp2
        go_round
        case rel => exact ⟨k + 1, j + 1, by omega, by omega, by omega, by omega, rfl, rfl, by have := HS.out; show _ = _; omega⟩
        case measure => simp [intOf]; omega
      | false =>
        simp only [hb, Bool.false_eq_true, if_false] at HS HC
        clear hb
        go_wp2_with fail
        refine HC.out.mono ?_
        rintro e w1 ⟨rfl, rfl⟩
        go_wp2
        go_round
        case rel => exact ⟨k, j + 1, by omega, by omega, by omega, by omega, rfl, rfl, by have := HS.out; show _ = _; omega⟩
        case measure => simp [intOf]; omega
    · have HE : Hid (k = R) := by
        have := HQ.out
        rw [show (h - j).toNat = 0 from by omega] at this
        show _ = _
        rw [this]; simp [cntG]
      go_wp2
      go_ret
      rw [← HE.out]
      exact ⟨rfl, rfl⟩
set_option maxRecDepth 10000 in
set_option maxHeartbeats 400000 in
theorem first_calls (w : World) (x : Value) (bs : List UInt8) (a b : Int) (hx : Rd w x (bvs bs)) (hl : bs.length ≤ 1000000000000)
    (a1 : -9223372036854775808 ≤ a) (a2 : a ≤ 9223372036854775807) (b1 : -9223372036854775808 ≤ b) (b2 : b ≤ 9223372036854775807) :
    Calls Try.prog 37 #[x, .int .i64 a, .int .i64 b] w fun e w' => e = .returned (.tuple #[.int .i64 (runP bs a b 1).1, .bool (runP bs a b 1).2]) ∧ w = w' := by
  have HC := Lib.hid (run_calls w x bs a b 1 hx hl a1 a2 b1 b2 (by omega) (by omega))
  generalize runP bs a b 1 = R at *
  obtain ⟨r, o⟩ := R
  go_enter Try.func37, Try.ntmps37
  go_wp2_with fail
  refine HC.out.mono ?_
  rintro e w1 ⟨rfl, rfl⟩
  go_wp2
  go_ret2
  exact ⟨rfl, rfl⟩
/-- make([]byte, k). -/
theorem run_mk8 {P : Program} (t e : TypeId) (i : TypeInfo) (z : Value) (ht : P.underlying t = some (.slice e)) (hi : P.info? e = some i) (hz : i.zero = some z) (hzc : z.cells = #[z]) (hs : i.size = 1)
    (k : Nat) (hk : i.bytes * k ≤ 281474976710656) (h63 : k ≤ 9223372036854775807) (w : World) :
    (Instr.makeSlice t (.int .i64 (k : Int)) (.int .i64 (k : Int))).run P w = .ok (.slice (some ⟨w.heap.size, 0, none⟩) k k) (w.alloc (.cells (List.replicate k z).toArray e)) := by
  have hb : (i.bytes : Int) * (k : Int) ≤ 281474976710656 := by
    have h : ((i.bytes * k : Nat) : Int) ≤ 281474976710656 := by omega
    rwa [Int.natCast_mul] at h
  have hr := run_make (P := P) w t e i z ht hi hz .i64 .i64 k k (by omega) (by omega) hb (by omega)
  simp only [Int.toNat_natCast, hs, Nat.mul_one, hzc] at hr
  rw [hr]
  congr 2
  congr 1
  apply Array.ext'
  rw [toList_madeCells_one]
theorem own_mk8 (w : World) (k : Nat) (hk : k ≤ 1000000000000) : Own8 (w.alloc (.cells (List.replicate k (Value.int .u8 0)).toArray 5)) (.slice (some ⟨w.heap.size, 0, none⟩) k k) (List.replicate k 0) := by
  refine ⟨by simp [bvs], .inr ⟨w.heap.size, k, _, by rw [List.length_replicate], Nat.zero_le _, heap_alloc_new w _, by rw [List.length_replicate]; exact Nat.le_refl _, by unfold maxLen; omega, by simp, ?_⟩⟩
  simp [bvs, bv]
def newP (n : Int) : List UInt8 × Int := if n < 0 ∨ 1048576 < n then ([], 1) else (List.replicate ((n + 7) / 8).toNat 0, 0)
end Go.Proofs.Ytefbmbfhhhjgkaa
