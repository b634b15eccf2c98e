import Derived.Test.YtdlfaoggjimbpaaKn1
import Derived.Deep.DeepCutAuto
namespace Go.Proofs.Ytdlfaoggjimbpaa
open Go.RowKit

set_option maxHeartbeats 1000000 in
theorem CodecFixed_calls (w : World) {x : Value} {bs : List UInt8} {size ahead : Int} (xx0 : Rd w x (bvs bs)) (ll0 : bs.length ≤ 9223372036854775807) (ww1 : (Lit.int .i64 size).wf = true) (ww2 : (Lit.int .i64 ahead).wf = true) :
    Calls Try.prog 7 #[x, .int .i64 size, .int .i64 ahead] w fun e w' => e = .returned (.bool true) ∧ Below w.heap.size w w' := by
  have hx0 := xx0
  have hbl := ll0
  obtain ⟨A, c, rfl⟩ := xx0.shape8
  clear ww1 ww2 ll0
  have easy : ∀ (h : (4096 < bs.length) ∨ (bs.length ≤ 4096 ∧ 8192 < size ∧ size ≤ 65536) ∨ (bs.length ≤ 4096 ∧ 65536 < size ∧ 1099511627776 < size)), Calls Try.prog 7 #[.slice A bs.length c, .int .i64 size, .int .i64 ahead] w fun e w' => e = .returned (.bool true) ∧ Below w.heap.size w w' := by
    intro h
    rcases h with h | ⟨h1, h2, h3⟩ | ⟨h1, h2, h3⟩
    all_goals
      go_enter Try.func7, Try.ntmps7
      go_wp2_with fail
      refine (known_calls w).mono ?_
      rintro e w1 ⟨rfl, hB1⟩
      go_wp2
      go_ret
      exact ⟨rfl, hB1⟩
  by_cases hg : (4096 < bs.length) ∨ (bs.length ≤ 4096 ∧ 8192 < size ∧ size ≤ 65536) ∨ (bs.length ≤ 4096 ∧ 65536 < size ∧ 1099511627776 < size)
  · exact easy hg
  clear easy
  have hl : bs.length ≤ 4096 := by omega
  have ht : size ≤ 1099511627776 := by omega
  obtain ⟨n, hn⟩ : ∃ n : Nat, min (max size 0) 65536 = (n : Int) := ⟨(min (max size 0) 65536).toNat, by omega⟩
  have hn1 : n ≤ 65536 := by omega
  have HN := Lib.hid hn
  have hcase : size ≤ 8192 ∨ 65536 < size := by omega
  have HG := Lib.hid hg
  clear hn hg hbl
  have HF : Hid (∀ (i : Nat) (h : i < n), i + 1 < (([] ++ [b8 ahead]) ++ (bs.take n ++ List.replicate (n - bs.length) 0)).length ∧ (([] ++ [b8 ahead]) ++ (bs.take n ++ List.replicate (n - bs.length) 0))[i + 1]? = some (if h : i < bs.length then bs[i] else 0)) := by
    intro i h
    refine ⟨by simp; omega, ?_⟩
    simp only [List.nil_append, List.singleton_append, List.getElem?_cons_succ]
    by_cases h2 : i < bs.length
    · rw [dif_pos h2, List.getElem?_append_left (by simp; omega), List.getElem?_take_of_lt h, List.getElem?_eq_getElem h2]
    · rw [dif_neg h2, List.getElem?_append_right (by simp; omega), List.getElem?_replicate, if_pos (by simp; omega)]
  have HL : Hid ((([] ++ [b8 ahead]) ++ (bs.take n ++ List.replicate (n - bs.length) 0)).length = n + 1) := by
    show _ = _
    simp
    omega
  rcases hcase with hcase | hcase
  all_goals
    go_enter Try.func7, Try.ntmps7
    go_wp2_with fail
    refine (known_calls w).mono ?_
    rintro e w1 ⟨rfl, hB1⟩
    go_wp2_with fail
    refine (NewWriter_calls w1).mono ?_
    rintro e w2 ⟨g, rfl, hg, h2, hB2⟩
    have hB2 : Below w.heap.size w w2 := hB1.trans (hB2.mono hB1.size)
    have hg : w.heap.size ≤ g := Nat.le_trans hB1.size hg
    go_wp2_with fail
    refine (U8_calls w2 g _ _ ahead h2 (by simp)).mono ?_
    intro e w3 k
    obtain ⟨rfl, v3, h3, hB3, hv3⟩ := k.own hB2 hg (fun k hk => by simp [Value.ownBlock] at hk)
    clear k h2 hB2 hB1
    go_wp2_with fail
    refine (Fixed_calls w3 g v3 _ _ bs size n h3 (hx0.below hB3) (by simp) (by omega) HN.out).mono ?_
    intro e w4 k
    obtain ⟨rfl, v4, h4, hB4, hv4⟩ := k.own hB3 hg hv3
    clear k h3 hB3 hv3
    go_wp2_with fail
    refine (Done_calls w4 g v4 _ h4 (by rw [HL.out]; omega)).mono ?_
    rintro e w5 ⟨r, rfl, h5, hB5, hr5⟩
    have hB5 : Below w.heap.size w w5 := hB4.trans (hB5.mono hB4.size)
    clear h4 hB4 hv4
    obtain ⟨X, hX⟩ : ∃ X, X = (([] ++ [b8 ahead]) ++ (bs.take n ++ List.replicate (n - bs.length) 0)) := ⟨_, rfl⟩
    have HX0 : Hid (X[0]? = some (b8 ahead)) := by rw [hX]; rfl
    rw [← hX] at HF HL h5
    clear hX
    have hr : Rd w5 r (bvs X) := Rd.of_own h5
    have hr' := hr
    obtain ⟨A2, c2, rfl⟩ : ∃ A c, r = .slice A (n + 1) c := by
      obtain ⟨A2, c2, e⟩ := h5.shape
      exact ⟨A2, c2, by rw [e, HL.out]⟩
    have hat : Hid (∀ (i : Nat) (b : UInt8), X[i]? = some b → ∃ ad, A2 = some ad ∧ w5.cell? (ad.add i) = some (bv b)) := by
      intro i b hb
      obtain ⟨hi, rfl⟩ := List.getElem?_eq_some_iff.1 hb
      obtain ⟨ad, c', e, h⟩ := hr.at8 hi
      injection e with e
      exact ⟨ad, e, h⟩
    have hxt : Hid (∀ (i : Nat) (h : i < bs.length), ∃ ad, A = some ad ∧ w5.cell? (ad.add i) = some (bv bs[i])) := by
      intro i hi
      obtain ⟨ad, c', e, h⟩ := (hx0.below hB5).at8 hi
      injection e with e
      exact ⟨ad, e, h⟩
    clear hr hr' h5 hr5
    go_upto_if 43 with fail
    go_cut [9] (fun s9 wx => w5 = wx ∧ s9 = .int .i64 (max size 0))
    case first =>
      by_cases h0 : size < 0
      · have e : Hid (max size 0 = 0) := by show _ = _; omega
        go_wp2
        all_goals
          go_meet
          exact ⟨rfl, congrArg _ e.out.symm⟩
      · have e : Hid (max size 0 = size) := by show _ = _; omega
        go_wp2
        all_goals
          go_meet
          exact ⟨rfl, congrArg _ e.out.symm⟩
    case rest =>
    obtain ⟨rfl, rfl⟩ := hcut
    obtain ⟨m, hm⟩ : ∃ m : Int, m = max size 0 := ⟨_, rfl⟩
    rw [← hm]
    have HM : Hid (min m 65536 = (n : Int)) := by rw [hm]; exact HN.out
    have hm0 : 0 ≤ m := by omega
    have hm1 : m ≤ 1099511627776 := by omega
    clear hm
    go_upto_if 45 with fail
    go_cut [9] (fun s9 wx => w5 = wx ∧ s9 = .int .i64 (n : Int))
    case first =>
      by_cases h0 : 65536 < m
      · have e : Hid ((n : Int) = 65536) := by have := HM.out; show _ = _; omega
        go_wp2
        all_goals
          go_meet
          exact ⟨rfl, congrArg _ e.out.symm⟩
      · have e : Hid ((n : Int) = m) := by have := HM.out; show _ = _; omega
        go_wp2
        all_goals
          go_meet
          exact ⟨rfl, congrArg _ e.out.symm⟩
    case rest =>
    obtain ⟨rfl, rfl⟩ := hcut
    obtain ⟨ad2, rfl, hc0⟩ := hat.out 0 _ HX0.out
    rw [bv_b8] at hc0
    have hc1 : w5.cell? ad2 = some (.int .u8 (ahead % 256)) := by simpa [Addr.add] using hc0
    clear hc0
    go_wp2
    clear hc1
    go_loop [10] (fun i => ∃ k : Nat, k ≤ n ∧ i = .int .i64 k) (fun i => n - (intOf i).toNat)
    case atStart => exact ⟨0, Nat.zero_le _, rfl⟩
    case round =>
      obtain ⟨k, hk, rfl⟩ := hrel
      by_cases hlt : k < n
      · obtain ⟨hf1, hf2⟩ := HF.out k hlt
        by_cases hkb : k < bs.length
        · rw [dif_pos hkb] at hf2
          obtain ⟨ad3, e3, hc3⟩ := hat.out (k + 1) _ hf2
          injection e3 with e3
          subst e3
          obtain ⟨ad4, rfl, hc4⟩ := hxt.out k hkb
          clear hf2
          unfold bv at hc3 hc4
          have hc5 : w5.cell? ⟨ad2.block, ad2.off + (k + 1), none⟩ = some (.int .u8 (bs[k].toNat : Int)) := by simpa [Addr.add] using hc3
          go_wp2
          go_round
          case rel => exact ⟨k + 1, by omega, by go_num⟩
          case measure => simp [intOf]; omega
        · rw [dif_neg hkb] at hf2
          obtain ⟨ad3, e3, hc3⟩ := hat.out (k + 1) _ hf2
          injection e3 with e3
          subst e3
          clear hf2
          unfold bv at hc3
          have hc5 : w5.cell? ⟨ad2.block, ad2.off + (k + 1), none⟩ = some (.int .u8 0) := by simpa [Addr.add] using hc3
          go_wp2
          go_round
          case rel => exact ⟨k + 1, by omega, by go_num⟩
          case measure => simp [intOf]; omega
      · go_wp2
        go_ret
        exact ⟨rfl, hB5⟩
end Go.Proofs.Ytdlfaoggjimbpaa
