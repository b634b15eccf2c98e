import Derived.Test.YtoloogpglnonaaaCrc
import Derived.Test.YtoloogpglnonaaaDrs
namespace Go.Proofs.Ytoloogpglnonaaa
open Go.RowKit
/- The document's own sum. -/
set_option maxRecDepth 10000 in
set_option maxHeartbeats 1000000 in
theorem RSum_calls (w : World) (x : Value) (bs : List UInt8) (hx : Rd w x (bvs bs)) (hl : bs.length ≤ 1000000000) :
    Calls Try.prog 57 #[x] w fun e w' => e = .returned (.int .u32 (crcP bs)) ∧ w = w' := by
  have hx1 := hx
  obtain ⟨A, c, rfl⟩ := hx.shape8
  go_enter Try.func57, Try.ntmps57
  go_wp2
  go_loop [3, 4] (fun o i => ∃ k s : Nat, k ≤ bs.length ∧ i = .int .i64 k ∧ o = .int .u32 s ∧ s < 4294967296 ∧ Hid (s = crcS 4294967295 (bs.take k))) (fun _ i => bs.length - (intOf i).toNat)
  case atStart => exact ⟨0, 4294967295, Nat.zero_le _, rfl, rfl, by omega, rfl⟩
  case round =>
    obtain ⟨k, s, hk, rfl, rfl, hs, HS⟩ := hrel
    by_cases hlt : k < bs.length
    · obtain ⟨ad, c', e, hc⟩ := hx1.at8 hlt
      injection e with e1 e2 e3
      subst e1
      unfold bv at hc
      have hcb := (bs[k]).toNat_lt
      obtain ⟨t, ht⟩ : ∃ t, t = s ^^^ (bs[k]).toNat := ⟨_, rfl⟩
      have ht0 : t < 4294967296 := by rw [ht]; exact xor8_lt s bs[k] hs
      have E1 : bits .xor .u32 (s : Int) ((bs[k]).toNat : Int) = (t : Int) := by rw [bits_xor_u32 _ _ hs (by omega), ht]
      have HT : Hid (bitN 8 t = crcS 4294967295 (bs.take (k + 1))) := by
        show _ = _
        rw [crcS_take bs hlt, ← HS.out, ht, bitN8]
      clear ht HS
      generalize (bs[k]).toNat = bk at *
      go_wp2
      go_loop [3, 5] (fun o j => ∃ n s' : Nat, n ≤ 8 ∧ j = .int .i64 n ∧ o = .int .u32 s' ∧ s' < 4294967296 ∧ Hid (s' = bitN n t)) (fun _ j => 8 - (intOf j).toNat)
      case atStart => exact ⟨0, t, Nat.zero_le _, rfl, rfl, ht0, rfl⟩
      case round =>
        obtain ⟨n, s', hn, rfl, rfl, hs', HN⟩ := hrel
        by_cases hn8 : n < 8
        · have A1 : bits .and .u32 (s' : Int) 1 = ((s' % 2 : Nat) : Int) := by
            rw [show (1 : Int) = ((1 : Nat) : Int) from rfl, bits_and_u32 _ _ hs' (by omega)]
            congr 1
            exact Nat.and_two_pow_sub_one_eq_mod s' 1
          by_cases hodd : s' % 2 = 1
          · rw [hodd] at A1
            have A2 : bits .xor .u32 ((s' : Int) / 2) 3988292384 = ((bitS s' : Nat) : Int) := by
              rw [show (s' : Int) / 2 = ((s' / 2 : Nat) : Int) from by omega, show (3988292384 : Int) = ((3988292384 : Nat) : Int) from rfl, bits_xor_u32 _ _ (by omega) (by omega)]
              unfold bitS
              rw [if_pos hodd]
              rfl
            have hN2 : Hid (bitS s' = bitN (n + 1) t) := by show _ = _; rw [HN.out]; rfl
            have hS2 := bitS_lt s' hs'
            clear hodd
            go_wp2
            go_round
            case rel => exact ⟨n + 1, bitS s', by omega, by go_num, rfl, hS2, hN2⟩
            case measure => simp [intOf]; omega
          · have h0 : s' % 2 = 0 := by omega
            rw [h0] at A1
            have A2 : (s' : Int) / 2 = ((bitS s' : Nat) : Int) := by
              unfold bitS
              rw [if_neg hodd]
              omega
            have A2 := Lib.hid A2
            have hN2 : Hid (bitS s' = bitN (n + 1) t) := by show _ = _; rw [HN.out]; rfl
            have hS2 := bitS_lt s' hs'
            clear hodd h0
            go_wp2
            go_round
            case rel => exact ⟨n + 1, bitS s', by omega, by go_num, rfl, hS2, hN2⟩
            case measure => simp [intOf]; omega
        · have hn9 : Hid (s' = bitN 8 t) := by
            show _ = _
            rw [HN.out, show n = 8 by omega]
          go_wp2
          go_round
          case rel => exact ⟨k + 1, by omega, by omega, s', rfl, hs', by show _ = _; rw [hn9.out, HT.out]⟩
          case measure => simp [intOf]; omega
    · have e : bs.take k = bs := List.take_of_length_le (by omega)
      have HE : Hid (s = crcS 4294967295 bs) := by rw [← e]; exact HS.out
      have hx3 : bits .xor .u32 IntKind.u32.max (s : Int) = ((4294967295 - s : Nat) : Int) := by
        rw [show IntKind.u32.max = ((4294967295 : Nat) : Int) from rfl, bits_xor_u32 _ _ (by omega) hs]
        congr 1
        exact xor_all s hs
      clear HS e
      go_wp2
      go_ret
      refine ⟨?_, rfl⟩
      show Ending.returned (.int .u32 ((4294967295 - s : Nat) : Int)) = _
      rw [HE.out]; rfl
set_option maxRecDepth 10000 in
set_option maxHeartbeats 1000000 in
theorem RSeal_calls (w : World) (x : Value) (bs : List UInt8) (hx : Rd w x (bvs bs)) (hl : bs.length ≤ 100000000) :
    Calls Try.prog 39 #[x] w (ByOut w (sealP bs)) := by
  obtain ⟨i0, hi, hz0, hz1, hz2⟩ := info_parts Try.info_u8
  have hx0 := hx
  obtain ⟨A, c, rfl⟩ := hx.shape8
  obtain ⟨cr, hcr⟩ : ∃ cr : Nat, Hid (crcP bs = cr) := ⟨_, rfl⟩
  have HS := RSum_calls w _ bs hx0 (by omega)
  have hlt := crcP_lt bs
  rw [hcr.out] at HS hlt
  have HS := Lib.hid HS
  have hq : Hid (sealP bs = bs ++ le32 cr) := by show _ = _; unfold sealP; rw [hcr.out]
  rw [hq.out]
  go_enter Try.func39, Try.ntmps39
  go_wp2_with fail
  refine HS.out.mono ?_
  rintro e w1 ⟨rfl, rfl⟩
  go_wp2_with (at_builtin; refine stop_app rfl ?_)
  refine Stop.mk (wpList_app _ rfl rfl (us := bvs bs) (base := 0) Try.underlying30 hi hz0 hz1 hz2 rfl (World.ownsRow_made w #[] 0 (Nat.zero_le _) (by unfold maxLen; omega) rfl) rfl (hx0.alloc _) rfl (bvs_one _) ?_ ?_ (Nat.zero_le _) ?_)
  · unfold maxLen; simp only [bvs_length]; omega
  · simp only [bvs_length]; omega
  intro v1 w1 hown hg hat
  have hB1 : Below w.heap.size w w1 := ((Below.refl _ _).alloc (Nat.le_refl _) _).grown hg (by simp) (fun k hk => by simp [Value.ownBlock] at hk; omega)
  have hfr : ∀ k, v1.ownBlock = some k → w.heap.size ≤ k := fun k hk => by
    rcases hat with e | e <;> rw [hk] at e <;> simp [Value.ownBlock] at e <;> omega
  have hown1 : Own8 w1 v1 bs := by simpa [Own8, bvs_length] using hown
  clear hown hat hg
  obtain ⟨A1, k1, rfl⟩ := hown1.shape
  have h1 := Lib.hid hown1
  have h2 := Lib.hid hB1
  have h3 := Lib.hid hfr
  clear hown1 hB1 hfr
  go_wp2_with (at_builtin; refine stop_app rfl ?_)
  have hr := rd_new w1 (bvs (le32 cr)) 5 4 rfl
  refine Stop.mk (wpList_app _ rfl rfl (us := bvs (le32 cr)) (base := 0) Try.underlying30 hi hz0 hz1 hz2 rfl (h1.out.alloc _) rfl ?_ rfl (bvs_one _) ?_ ?_ (Nat.zero_le _) ?_)
  · have hq4 : (cr : Int) / 16777216 % 256 = (cr : Int) / 16777216 := by omega
    simp only [le32, bvs, List.map_cons, List.map_nil, bv_b8, hq4] at hr ⊢
    exact hr
  · unfold maxLen; simp only [bvs_length, le32_len]; omega
  · simp only [bvs_length, le32_len]; omega
  intro v2 w2 hown hg hat
  have hal : Below w.heap.size w (w1.alloc (.cells (bvs (le32 cr)).toArray 5)) := h2.out.alloc h2.out.size _
  clear hr
  have hB2 : Below w.heap.size w w2 := (h2.out.alloc h2.out.size _).grown hg (by have := h2.out.size; simp; omega) (fun k hk => h3.out k hk)
  have hfr2 : ∀ k, v2.ownBlock = some k → w.heap.size ≤ k := fun k hk => by
    rcases hat with e | e <;> rw [hk] at e
    · exact h3.out k e.symm
    · injection e with e
      have := h2.out.size
      simp at e
      omega
  have ho2 : Own8 w2 v2 (bs ++ le32 cr) := by
    unfold Own8
    rw [List.length_append, le32_len, bvs_append]
    simpa [bvs_length, le32_len] using hown
  clear hown hg hat hal
  go_wp2
  go_ret
  exact ⟨v2, rfl, ho2, hB2, hfr2⟩
end Go.Proofs.Ytoloogpglnonaaa
