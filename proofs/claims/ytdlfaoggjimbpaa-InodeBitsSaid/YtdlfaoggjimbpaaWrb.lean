import Derived.Test.YtdlfaoggjimbpaaWrt
namespace Go.Proofs.Ytdlfaoggjimbpaa
open Go.RowKit
set_option maxHeartbeats 1000000 in
theorem WBytes_calls (w : World) (g : Nat) (v x : Value) (xs bs : List UInt8) (h : RWr w g v xs) (hx : Rd w x (bvs bs)) (hne : bs ≠ [] → ∀ k, x.ownBlock = some k → ¬ Wset g v k) (hl : xs.length ≤ 100000000) (hb : bs.length ≤ 100000000) :
    Calls Try.prog 22 #[.pointer (some ⟨g, 0, none⟩), x] w (RWrOut w g v (xs ++ (le32 bs.length ++ bs))) := by
  obtain ⟨i0, hi, hz0, hz1, hz2⟩ := info_parts Try.info_u8
  obtain ⟨A, c, rfl⟩ := hx.shape8
  obtain ⟨us, hus⟩ : ∃ us, Hid (us = xs ++ (le32 bs.length ++ bs)) := ⟨_, rfl⟩
  rw [← hus.out]
  have HC := Lib.hid (WNumber_calls w g v xs bs.length 4 h (by omega) (by omega) (by omega) (by omega))
  go_enter Try.func22, Try.ntmps22
  go_wp2_with fail
  refine HC.out.mono ?_
  rintro e w1 ⟨rfl, v1, h1, hc1, hat1⟩
  have hx1 : Rd w1 (.slice A bs.length c) (bvs bs) := by
    by_cases hb0 : bs = []
    · subst hb0; exact Rd.nil _ _ _
    · exact hx.chg hc1 (hne hb0)
  have c0 := h1.blk.cell 0
  have f0 := h1.blk.frozen 0
  go_wp2_with (at_builtin; refine stop_app rfl ?_)
  refine Stop.mk (wpList_app _ rfl rfl Try.underlying28 hi hz0 hz1 hz2 rfl h1.own rfl hx1 rfl (bvs_one _) ?_ ?_ (Nat.zero_le _) ?_)
  · unfold maxLen; simp [bvs_length, les_len]; omega
  · simp [bvs_length, les_len]; omega
  intro v2 w2 hown hg hat
  obtain ⟨N, A1, k1, HN, rfl, hown2⟩ := own_hide hown
  clear hown
  have b1 := h1.blk.grown hg (Ne.symm (h1.own.ne h1.blk (by decide))); have c1 := b1.cell 0; have f1 := b1.frozen 0
  obtain ⟨q1, q2, q3⟩ := RWr.step (us := us) h1 hc1 hat1 (Below.refl _ _) hown2 rfl (by rw [HN.out]; simp [bvs_length]) hg hat (by rw [hus.out, les4, List.append_assoc])
  have q1 := Lib.hid q1
  have q2 := Lib.hid q2
  have q3 := Lib.hid q3
  go_wp2
  go_end0
  exact ⟨rfl, _, q1.out, q2.out, q3.out⟩
end Go.Proofs.Ytdlfaoggjimbpaa
