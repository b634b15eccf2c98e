import Derived.Test.YtjojefljghoopaaBit
import Derived.Test.YtjojefljghoopaaDraw
namespace Go.Proofs.Ytjojefljghoopaa
open Go.RowKit

def Own8 (w : World) (v : Value) (xs : List UInt8) : Prop := w.ownsRow 0 5 1 v xs.length (bvs xs)
theorem Own8.rd {w : World} {v : Value} {xs : List UInt8} (h : Own8 w v xs) : Rd w v (bvs xs) := Rd.of_own h
theorem Own8.form {w : World} {v : Value} {xs : List UInt8} (h : Own8 w v xs) (hn : 0 < xs.length) : ∃ g cap, v = .slice (some ⟨g, 0, none⟩) xs.length cap := by
  rcases h.2 with ⟨rfl, hn'⟩ | ⟨g', cap, cur, rfl, _, hg, _⟩
  · omega
  · exact ⟨_, _, rfl⟩
theorem Own8.put {w : World} {g n cap : Nat} {xs : List UInt8} (h : Own8 w (.slice (some ⟨g, 0, none⟩) n cap) xs) (hn : n = xs.length) (j : Nat) (b : UInt8) :
    Own8 (w.setCell ⟨g, j, none⟩ (bv b)) (.slice (some ⟨g, 0, none⟩) n cap) (xs.set j b) := by
  subst hn
  have := (World.ownsRow.stored h j (bv b)).1
  unfold Own8
  rw [List.length_set, bvs, List.map_set]
  exact this

/-- What Set and Clear leave: bit i turned. -/
def turn (bs : List UInt8) (i : Nat) : List UInt8 := bs.set (i / 8) (UInt8.ofNat ((bs.getD (i / 8) 0).toNat ^^^ 2 ^ (i % 8)))
def setP (bs : List UInt8) (i : Int) : Bool × List UInt8 := if isP bs i = true ∧ bitAt bs i.toNat = false then (true, turn bs i.toNat) else (false, bs)
def clearP (bs : List UInt8) (i : Int) : Bool × List UInt8 := if hasP bs i = true then (true, turn bs i.toNat) else (false, bs)
def MapOut (w : World) (v : Value) (o : Bool × List UInt8) (e : Ending) (w' : World) : Prop :=
  e = .returned (.bool o.1) ∧ Own8 w' v o.2 ∧ Chg (fun k => v.ownBlock = some k) w w'

theorem or_bit (v r : Nat) (h : v.testBit r = false) : v ||| 2 ^ r = v ^^^ 2 ^ r := by
  apply Nat.eq_of_testBit_eq
  intro j
  rw [Nat.testBit_or, Nat.testBit_xor, Nat.testBit_two_pow]
  by_cases hj : r = j
  · subst hj; simp [h]
  · simp [hj]
theorem xor_lt8 (v r : Nat) (hv : v < 256) (hr : r < 8) : v ^^^ 2 ^ r < 256 :=
  Nat.xor_lt_two_pow (n := 8) (by omega) (Nat.pow_lt_pow_right (by omega) hr)
theorem turn_at {bs : List UInt8} {m : Nat} (h : m / 8 < bs.length) : turn bs m = bs.set (m / 8) (UInt8.ofNat (bs[m / 8].toNat ^^^ 2 ^ (m % 8))) := by
  unfold turn
  rw [List.getD_eq_getElem?_getD, List.getElem?_eq_getElem h]; rfl
theorem ofNat_toNat8 (n : Nat) (h : n < 256) : (UInt8.ofNat n).toNat = n := by simp; omega

theorem pow8_lt (r : Nat) (h : r < 8) : 2 ^ r < 256 := Nat.pow_lt_pow_right (by omega) h
theorem pow_cast (r : Nat) : (2 : Int) ^ r = ((2 ^ r : Nat) : Int) := by rw [Int.natCast_pow]; rfl
theorem pow8_wrap (r : Nat) (h : r < 8) : IntKind.u8.wrap (2 ^ r) = 2 ^ r := by
  have := pow8_lt r h
  rw [pow_cast, IntKind.wrap_u8]
  generalize 2 ^ r = p at *
  omega
set_option maxHeartbeats 400000 in
theorem set_calls (w : World) (x : Value) (bs : List UInt8) (i : Int) (hx : Own8 w x bs) (hl : bs.length ≤ 1000000000000) (h1 : -9223372036854775808 ≤ i) (h2 : i ≤ 9223372036854775807) :
    Calls Try.prog 13 #[x, .int .i64 i] w (MapOut w x (setP bs i)) := by
  have HI := Lib.hid (is_calls w _ bs i hx.rd hl h1 h2)
  have HH := Lib.hid (has_calls w _ bs i hx.rd hl h1 h2)
  unfold setP
  by_cases hp : isP bs i = true
  · have hp' := hp
    simp only [isP, Bool.and_eq_true, decide_eq_true_eq] at hp'
    obtain ⟨h0, hq⟩ := hp'
    obtain ⟨m, rfl⟩ := Int.eq_ofNat_of_zero_le h0
    rw [Int.toNat_natCast]
    have hh : hasP bs (m : Int) = bitAt bs m := by unfold hasP; rw [hp, Bool.true_and, Int.toNat_natCast]
    rw [hh] at HH
    rw [hp] at HI
    have hq2 : m / 8 < bs.length := by omega
    obtain ⟨g, cap, rfl⟩ := hx.form (by omega)
    cases hbit : bitAt bs m with
    | true =>
      rw [if_neg (by simp)]
      rw [hbit] at HH
      clear hh hbit hp
      go_enter Try.func13, Try.ntmps13
      go_wp2_with fail
      refine HI.out.mono ?_
      rintro e w1 ⟨rfl, rfl⟩
      go_wp2_with fail
      refine HH.out.mono ?_
      rintro e w1 ⟨rfl, rfl⟩
      go_wp2
      go_ret
      exact ⟨rfl, hx, Chg.refl _ _⟩
    | false =>
      rw [if_pos ⟨hp, rfl⟩]
      rw [hbit] at HH
      have hbit2 : bs[m / 8].toNat.testBit (m % 8) = false := by
        have := hbit
        unfold bitAt at this
        rw [List.getD_eq_getElem?_getD, List.getElem?_eq_getElem hq2] at this
        exact this
      have hor := or_bit _ _ hbit2
      rw [turn_at hq2]
      obtain ⟨ad, e, hc⟩ := hx.rd.at8a hq2
      have hf := World.ownsRow.frozenAt hx (m / 8)
      have hput := hx.put rfl (m / 8) (UInt8.ofNat (bs[m / 8].toNat ^^^ 2 ^ (m % 8)))
      injection e with e
      subst e
      rw [addr_add_at, Nat.zero_add] at hc
      have hv2 : bs[m / 8].toNat < 256 := bs[m / 8].toNat_lt
      unfold bv at hc hput
      rw [ofNat_toNat8 _ (xor_lt8 _ _ hv2 (by omega))] at hput
      obtain ⟨us, hus⟩ : ∃ us, us = bs.set (m / 8) (UInt8.ofNat (bs[m / 8].toNat ^^^ 2 ^ (m % 8))) := ⟨_, rfl⟩
      rw [← hus] at hput ⊢
      obtain ⟨r, hr⟩ : ∃ r, r = m % 8 := ⟨_, rfl⟩
      have hr8 : r < 8 := by omega
      have hre : bits .and .i64 (m : Int) 7 = (r : Int) := by
        rw [show (7 : Int) = ((7 : Nat) : Int) from rfl, bits_and_i64 m 7 (by omega) (by omega), hr]
        congr 1
        exact Nat.and_two_pow_sub_one_eq_mod m 3
      rw [← hr] at hput hor
      clear hus hbit2 hbit hh hr
      generalize bs[m / 8].toNat = v at *
      obtain ⟨q, hq1⟩ : ∃ q, q = m / 8 := ⟨_, rfl⟩
      rw [← hq1] at hc hq2 hput hf
      have hqe : (m : Int) / 8 = (q : Int) := by omega
      clear hq1 hp
      have hsh := pow8_wrap r hr8
      obtain ⟨y, hy⟩ : ∃ y, y = v ^^^ 2 ^ r := ⟨_, rfl⟩
      have hor2 : bits .or .u8 (v : Int) (2 ^ r) = (y : Int) := by
        rw [pow_cast, bits_or_u8 _ _ hv2 (pow8_lt r hr8), hor, hy]
      rw [← hy] at hput
      clear hor hy
      go_enter Try.func13, Try.ntmps13
      go_wp2_with fail
      refine HI.out.mono ?_
      rintro e w1 ⟨rfl, rfl⟩
      go_wp2_with fail
      refine HH.out.mono ?_
      rintro e w1 ⟨rfl, rfl⟩
      go_wp2
      refine wp_mix_tail (fun W => W.cell? ⟨g, q, none⟩ = some (.int .u8 v)) [10] (by kernel_rfl) (by kernel_rfl) (by kernel_rfl) (by kernel_rfl) hc ?_
      iterate 8 (refine mixq rfl rfl ?_ (fun w' hw' => Or.inl ?_) (fun K hK => ?_); rotate_left; (focus (have c0 : w'.cell? ⟨g, q, none⟩ = some (.int .u8 v) := hw'; go_simp; rfl)); go_simp; refine hK _ ?_; clear hK K)
      refine mixq rfl rfl ?_ (fun w' hw' => Or.inl ?_) (fun K hK => ?_); rotate_left; (focus (go_simp; rfl)); go_simp; refine hK _ ?_; clear hK K
      refine mixq rfl rfl ?_ (fun w' hw' => Or.inl ?_) (fun K hK => ?_); rotate_left; (focus (go_simp; rfl)); go_simp; refine hK _ ?_; clear hK K
      refine mixl rfl rfl (fun K hK => ?_)
      go_simp
      refine hK _ _ (fun hf => (by cases hf)) (mix_nil ?_)
      clear hK K
      go_wp2
      go_ret
      exact ⟨rfl, hput, ((Chg.refl (fun k => (Value.slice (some ⟨g, 0, none⟩) bs.length cap).ownBlock = some k) w).drew).setCell (p := ⟨g, q, none⟩) (fun _ => rfl) _⟩
  · have hp : isP bs i = false := by simpa using hp
    rw [if_neg (fun h => by rw [hp] at h; exact absurd h.1 (by simp))]
    rw [hp] at HI
    clear hp HH
    go_enter Try.func13, Try.ntmps13
    go_wp2_with fail
    refine HI.out.mono ?_
    rintro e w1 ⟨rfl, rfl⟩
    go_wp2
    go_ret
    exact ⟨rfl, hx, Chg.refl _ _⟩

theorem andnot_bit (v r : Nat) (hv : v < 256) (hr : r < 8) (h : v.testBit r = true) : bits .andNot .u8 (v : Int) ((2 ^ r : Nat) : Int) = ((v ^^^ 2 ^ r : Nat) : Int) := by
  have hp := pow8_lt r hr
  have hx := xor_lt8 v r hv hr
  show IntKind.u8.wrap ((BitVec.ofInt 8 (v : Int) &&& ~~~ BitVec.ofInt 8 ((2 ^ r : Nat) : Int)).toNat : Int) = _
  have e : BitVec.ofInt 8 (v : Int) &&& ~~~ BitVec.ofInt 8 ((2 ^ r : Nat) : Int) = BitVec.ofInt 8 (v : Int) ^^^ BitVec.ofInt 8 ((2 ^ r : Nat) : Int) := by
    apply BitVec.eq_of_getLsbD_eq
    intro i hi
    rw [BitVec.getLsbD_and, BitVec.getLsbD_not, BitVec.getLsbD_xor]
    simp only [hi, decide_true, Bool.true_and]
    have e1 : (BitVec.ofInt 8 (v : Int)).getLsbD i = v.testBit i := by unfold BitVec.getLsbD; rw [ofInt8_nat v hv]
    have e2 : (BitVec.ofInt 8 ((2 ^ r : Nat) : Int)).getLsbD i = (2 ^ r).testBit i := by unfold BitVec.getLsbD; rw [ofInt8_nat _ hp]
    rw [e1, e2, Nat.testBit_two_pow]
    by_cases hri : r = i
    · subst hri; simp [h]
    · simp [hri]
  rw [e, BitVec.toNat_xor, ofInt8_nat v hv, ofInt8_nat _ hp, IntKind.wrap_u8]
  omega

set_option maxHeartbeats 400000 in
theorem clear_calls (w : World) (x : Value) (bs : List UInt8) (i : Int) (hx : Own8 w x bs) (hl : bs.length ≤ 1000000000000) (h1 : -9223372036854775808 ≤ i) (h2 : i ≤ 9223372036854775807) :
    Calls Try.prog 16 #[x, .int .i64 i] w (MapOut w x (clearP bs i)) := by
  have HH := Lib.hid (has_calls w _ bs i hx.rd hl h1 h2)
  unfold clearP
  by_cases hp0 : hasP bs i = true
  · rw [if_pos hp0]
    rw [hp0] at HH
    have hp := hp0
    unfold hasP at hp
    rw [Bool.and_eq_true] at hp
    obtain ⟨hp, hbit⟩ := hp
    simp only [isP, Bool.and_eq_true, decide_eq_true_eq] at hp
    obtain ⟨h0, hq⟩ := hp
    obtain ⟨m, rfl⟩ := Int.eq_ofNat_of_zero_le h0
    rw [Int.toNat_natCast] at hbit ⊢
    have hq2 : m / 8 < bs.length := by omega
    obtain ⟨g, cap, rfl⟩ := hx.form (by omega)
    have hbit2 : bs[m / 8].toNat.testBit (m % 8) = true := by
      have := hbit
      unfold bitAt at this
      rw [List.getD_eq_getElem?_getD, List.getElem?_eq_getElem hq2] at this
      exact this
    rw [turn_at hq2]
    obtain ⟨ad, e, hc⟩ := hx.rd.at8a hq2
    have hf := World.ownsRow.frozenAt hx (m / 8)
    have hput := hx.put rfl (m / 8) (UInt8.ofNat (bs[m / 8].toNat ^^^ 2 ^ (m % 8)))
    injection e with e
    subst e
    rw [addr_add_at, Nat.zero_add] at hc
    have hv2 : bs[m / 8].toNat < 256 := bs[m / 8].toNat_lt
    unfold bv at hc hput
    rw [ofNat_toNat8 _ (xor_lt8 _ _ hv2 (by omega))] at hput
    obtain ⟨us, hus⟩ : ∃ us, us = bs.set (m / 8) (UInt8.ofNat (bs[m / 8].toNat ^^^ 2 ^ (m % 8))) := ⟨_, rfl⟩
    rw [← hus] at hput ⊢
    obtain ⟨r, hr⟩ : ∃ r, r = m % 8 := ⟨_, rfl⟩
    have hr8 : r < 8 := by omega
    have hre : bits .and .i64 (m : Int) 7 = (r : Int) := by
      rw [show (7 : Int) = ((7 : Nat) : Int) from rfl, bits_and_i64 m 7 (by omega) (by omega), hr]
      congr 1
      exact Nat.and_two_pow_sub_one_eq_mod m 3
    rw [← hr] at hput hbit2
    clear hus hbit hr hp0
    generalize bs[m / 8].toNat = v at *
    obtain ⟨q, hq1⟩ : ∃ q, q = m / 8 := ⟨_, rfl⟩
    rw [← hq1] at hc hq2 hput hf
    have hqe : (m : Int) / 8 = (q : Int) := by omega
    clear hq1
    have hsh := pow8_wrap r hr8
    obtain ⟨y, hy⟩ : ∃ y, y = v ^^^ 2 ^ r := ⟨_, rfl⟩
    have hor2 : bits .andNot .u8 (v : Int) (2 ^ r) = (y : Int) := by
      rw [pow_cast, andnot_bit _ _ hv2 hr8 hbit2, hy]
    rw [← hy] at hput
    clear hy hbit2
    go_enter Try.func16, Try.ntmps16
    go_wp2_with fail
    refine HH.out.mono ?_
    rintro e w1 ⟨rfl, rfl⟩
    go_wp2
    refine wp_mix_tail (fun W => W.cell? ⟨g, q, none⟩ = some (.int .u8 v)) [10] (by kernel_rfl) (by kernel_rfl) (by kernel_rfl) (by kernel_rfl) hc ?_
    iterate 8 (refine mixq rfl rfl ?_ (fun w' hw' => Or.inl ?_) (fun K hK => ?_); rotate_left; (focus (have c0 : w'.cell? ⟨g, q, none⟩ = some (.int .u8 v) := hw'; go_simp; rfl)); go_simp; refine hK _ ?_; clear hK K)
    refine mixq rfl rfl ?_ (fun w' hw' => Or.inl ?_) (fun K hK => ?_); rotate_left; (focus (go_simp; rfl)); go_simp; refine hK _ ?_; clear hK K
    refine mixq rfl rfl ?_ (fun w' hw' => Or.inl ?_) (fun K hK => ?_); rotate_left; (focus (go_simp; rfl)); go_simp; refine hK _ ?_; clear hK K
    refine mixl rfl rfl (fun K hK => ?_)
    go_simp
    refine hK _ _ (fun hf => (by cases hf)) (mix_nil ?_)
    clear hK K
    go_wp2
    go_ret
    exact ⟨rfl, hput, ((Chg.refl (fun k => (Value.slice (some ⟨g, 0, none⟩) bs.length cap).ownBlock = some k) w).drew).setCell (p := ⟨g, q, none⟩) (fun _ => rfl) _⟩
  · have hp : hasP bs i = false := by simpa using hp0
    rw [if_neg hp0]
    rw [hp] at HH
    clear hp hp0
    go_enter Try.func16, Try.ntmps16
    go_wp2_with fail
    refine HH.out.mono ?_
    rintro e w1 ⟨rfl, rfl⟩
    go_wp2
    go_ret
    exact ⟨rfl, hx, Chg.refl _ _⟩
end Go.Proofs.Ytjojefljghoopaa
