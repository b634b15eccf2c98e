import Derived.Test.YtjojefljghoopaaBitF
namespace Go.Proofs.Ytjojefljghoopaa
open Go.RowKit

def putP (bs : List UInt8) (i : Int) (on : Bool) : Bool × List UInt8 := if isP bs i = true ∧ hasP bs i ≠ on then (true, turn bs i.toNat) else (false, bs)
theorem putP_set (bs : List UInt8) (i : Int) : putP bs i true = setP bs i := by
  unfold putP setP hasP
  cases isP bs i <;> simp
theorem putP_clear (bs : List UInt8) (i : Int) : putP bs i false = clearP bs i := by
  unfold putP clearP hasP
  cases isP bs i <;> simp

set_option maxHeartbeats 1000000 in
theorem rput_calls (w : World) (x : Value) (bs : List UInt8) (i : Int) (on : Bool) (hx : Own8 w x bs) (hl : bs.length ≤ 1000000000000) (h1 : -9223372036854775808 ≤ i) (h2 : i ≤ 9223372036854775807) :
    Calls Try.prog 17 #[x, .int .i64 i, .bool on] w (MapOut w x (putP bs i on)) := by
  have HH := Lib.hid (rhas_calls w _ bs i hx.rd hl h1 h2)
  unfold putP
  by_cases hp : isP bs i = true
  · have hp' := hp
    simp only [isP, Bool.and_eq_true, decide_eq_true_eq] at hp'
    obtain ⟨h0, hq⟩ := hp'
    obtain ⟨m, rfl⟩ := Int.eq_ofNat_of_zero_le h0
    rw [Int.toNat_natCast]
    have hq2 : m / 8 < bs.length := by omega
    have hlt : (m : Int) < 8 * (bs.length : Int) := by omega
    obtain ⟨g, cap, rfl⟩ := hx.form (by omega)
    by_cases hon : hasP bs (m : Int) = on
    · rw [if_neg (fun h => h.2 hon)]
      rw [hon] at HH
      clear hp hon
      have hb : (on == on) = true := by simp
      go_enter Try.func17, Try.ntmps17
      go_wp2_with fail
      refine HH.out.mono ?_
      rintro e w1 ⟨rfl, rfl⟩
      go_wp2
      go_ret
      exact ⟨rfl, hx, Chg.refl _ _⟩
    · rw [if_pos ⟨hp, hon⟩]
      have hb : (hasP bs (m : Int) == on) = false := by simpa using hon
      rw [turn_at hq2]
      obtain ⟨ad, e, hc⟩ := hx.rd.at8a hq2
      have hf := World.ownsRow.frozenAt hx (m / 8)
      have hput := hx.put rfl (m / 8) (UInt8.ofNat (bs[m / 8].toNat ^^^ 2 ^ (m % 8)))
      injection e with e
      subst e
      rw [addr_add_at, Nat.zero_add] at hc
      have hv2 : bs[m / 8].toNat < 256 := bs[m / 8].toNat_lt
      unfold bv at hc hput
      rw [ofNat_toNat8 _ (xor_lt8 _ _ hv2 (by omega))] at hput
      obtain ⟨us, hus⟩ : ∃ us, us = bs.set (m / 8) (UInt8.ofNat (bs[m / 8].toNat ^^^ 2 ^ (m % 8))) := ⟨_, rfl⟩
      rw [← hus] at hput ⊢
      generalize hasP bs (m : Int) = has at *
      obtain ⟨r, hr⟩ : ∃ r, r = m % 8 := ⟨_, rfl⟩
      have hr8 : r < 8 := by omega
      have hre : (m : Int) % 8 = (r : Int) := by omega
      rw [← hr] at hput
      clear hus hr
      generalize bs[m / 8].toNat = v at *
      obtain ⟨q, hq1⟩ : ∃ q, q = m / 8 := ⟨_, rfl⟩
      rw [← hq1] at hc hq2 hput hf
      have hqe : (m : Int) / 8 = (q : Int) := by omega
      clear hq1 hp hon
      have hsh := pow8_wrap r hr8
      obtain ⟨y, hy⟩ : ∃ y, y = v ^^^ 2 ^ r := ⟨_, rfl⟩
      have hor2 : bits .xor .u8 (v : Int) (2 ^ r) = (y : Int) := by
        rw [pow_cast, bits_xor_u8 _ _ hv2 (pow8_lt r hr8), hy]
      rw [← hy] at hput
      clear hy
      go_enter Try.func17, Try.ntmps17
      go_wp2_with fail
      refine HH.out.mono ?_
      rintro e w1 ⟨rfl, rfl⟩
      go_wp2
      go_ret
      exact ⟨rfl, hput, (Chg.refl (fun k => (Value.slice (some ⟨g, 0, none⟩) bs.length cap).ownBlock = some k) w).setCell (p := ⟨g, q, none⟩) (fun _ => rfl) _⟩
  · have hp : isP bs i = false := by simpa using hp
    rw [if_neg (fun h => by rw [hp] at h; exact absurd h.1 (by simp))]
    have hc : i < 0 ∨ (0 ≤ i ∧ 8 * (bs.length : Int) ≤ i) := by
      have := mt (isP_iff bs i).2 (by rw [hp]; simp)
      omega
    clear hp HH
    obtain ⟨A1, k1, rfl⟩ := own_shape hx
    rcases hc with hc | ⟨h0, hc⟩
    all_goals
      go_enter Try.func17, Try.ntmps17
      go_wp2
      go_ret
      exact ⟨rfl, hx, Chg.refl _ _⟩
end Go.Proofs.Ytjojefljghoopaa
