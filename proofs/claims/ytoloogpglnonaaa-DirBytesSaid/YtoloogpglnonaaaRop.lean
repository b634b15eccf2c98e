import Derived.Test.YtoloogpglnonaaaRsm
import Derived.Test.YtoloogpglnonaaaKn1
import Derived.Deep.QuietTactic
import Derived.BigQuiet
namespace Go.Proofs.Ytoloogpglnonaaa
open Go.RowKit
theorem bytes_ne {a b : List UInt8} (h : a ≠ b) : ((⟨a.toArray⟩ : ByteArray) != ⟨b.toArray⟩) = true := by
  have e : ((⟨a.toArray⟩ : ByteArray) == ⟨b.toArray⟩) = (a.toArray == b.toArray) := rfl
  unfold bne
  rw [e]
  simpa using h
set_option maxRecDepth 10000 in
set_option maxHeartbeats 1000000 in
theorem ROpen_calls (w : World) (x : Value) (bs : List UInt8) (hx : Rd w x (bvs bs)) (hl : bs.length ≤ 100000000) :
    Calls Try.prog 47 #[x] w (OpenOut w (openP bs)) := by
  obtain ⟨i0, hi, hz0, hz1, hz2⟩ := info_parts Try.info_u8
  have hx0 := hx
  obtain ⟨A, c, rfl⟩ := hx.shape8
  by_cases h4 : bs.length < 4
  · have ht : openP bs = ([], 2) := by simp [openP, h4]
    rw [ht]
    clear ht
    go_enter Try.func47, Try.ntmps47
    go_wp2
    go_ret2
    exact ⟨_, rfl, World.ownsRow_nil _ _ _ _, Below.refl _ _, fun k hk => by simp [Value.ownBlock] at hk⟩
  · have ht := Lib.hid (open_ref bs (by omega))
    obtain ⟨n, hn⟩ : ∃ n, bs.length - 4 = n := ⟨_, rfl⟩
    rw [hn] at ht
    have hn1 : bs.length = n + 4 := by omega
    have hmc : bs.length ≤ c := by
      obtain ⟨A', c', e, hl, _⟩ := hx0
      injection e with _ _ e3
      rw [e3, ← bvs_length bs]; exact hl
    have R2 := Lib.hid (rd_takec hx (show n ≤ bs.length by omega))
    have hnc : n ≤ c := by omega
    have hs1 : (bs.length : Int) - 4 = (n : Int) := by omega
    have hlu : Hid ((bs.take n).length ≤ 100000000) := by show _ ≤ _; rw [List.length_take]; omega
    obtain ⟨us, hus⟩ : ∃ us, us = bs.take n := ⟨_, rfl⟩
    rw [← hus] at ht R2 hlu
    have husH := Lib.hid hus
    clear hus
    have HL := Lib.hid hn1
    clear hn hn1
    have HC := Lib.hid (RSeal_calls w.drew _ us (Rd.drew R2.out) hlu.out)
    go_enter Try.func47, Try.ntmps47
    go_wp2_with fail
    refine wp_mixs (fun W => Rd W (.slice A bs.length c) (bvs bs)) [3] (by kernel_rfl) (by kernel_rfl) (by kernel_rfl) (by decide) (Rd.drew hx0) ?_
    iterate 3 (refine mixsq rfl rfl 0 (by kernel_rfl) ?_ (fun w' hw' => Or.inl ?_) (fun K hK => ?_); rotate_left; (focus (go_simp; rfl)); go_simp; refine hK _ ?_; clear hK K)
    refine mixsl rfl rfl (fun K hK => ?_)
    go_simp
    refine HC.out.mono ?_
    rintro e w3 ⟨r, rfl, ho, hB3, hr3⟩
    have hx3 := (Rd.drew hx0).below hB3
    refine hK (fun W => Rd W r (bvs (sealP us))) _ _ (fun _ => ⟨Rd.of_own ho, fun _ => hx3⟩) ?_
    clear hK K HC
    refine mixsq rfl rfl 1 (by kernel_rfl) ?_ (fun w' hw' => Or.inl ?_) (fun K hK => ?_); rotate_left
    · have hw2 : Rd w' r (bvs (sealP us)) := hw'
      have s1 := run_str (P := Try.prog) w' 30 9 5 _ _ Try.underlying30 Try.underlying5 Try.underlying9 hw2
      unfold str at s1
      go_simp
      rfl
    go_simp; refine hK _ ?_; clear hK K
    iterate 2 (refine mixsq rfl rfl 0 (by kernel_rfl) ?_ (fun w' hw' => Or.inl ?_) (fun K hK => ?_); rotate_left; (focus (have hw2 : Rd w' _ _ := hw'; have s1 := run_str (P := Try.prog) w' 30 9 5 _ _ Try.underlying30 Try.underlying5 Try.underlying9 hw2; unfold str at s1; go_simp; rfl)); go_simp; refine hK _ ?_; clear hK K)
    have hB3' : Below w.heap.size w w3 := ⟨hB3.os, hB3.tape, hB3.output, hB3.size, hB3.block⟩
    have ho2 := Lib.hid ho
    clear ho
    by_cases he : sealP us = bs
    · have ht2 : Hid (openP bs = (us, 0)) := by show _ = _; rw [ht.out, if_pos he]
      rw [he]
      clear ht he
      refine mixsq rfl rfl 1 (by kernel_rfl) ?_ (fun w' hw' => Or.inl ?_) (fun K hK => ?_); rotate_left; (focus (go_simp; rfl)); go_simp; refine hK _ ?_; clear hK K
      refine mixs_nil ?_
      have R3 := Lib.hid (R2.out.below hB3')
      have hB4 := Lib.hid hB3'
      have hlt : Hid (us.length = n) := by show _ = _; rw [husH.out, List.length_take]; have := HL.out; omega
      clear hx3 hB3 hB3'
      go_wp2_with (at_builtin; refine stop_app rfl ?_)
      refine Stop.mk (wpList_app _ rfl rfl (us := bvs us) (base := 0) Try.underlying30 hi hz0 hz1 hz2 rfl (World.ownsRow_made w3 #[] 0 (Nat.zero_le _) (by unfold maxLen; omega) rfl) rfl (R3.out.alloc _) rfl (bvs_one _) ?_ ?_ (Nat.zero_le _) ?_)
      · have := hlu.out; unfold maxLen; simp only [bvs_length]; omega
      · have := hlu.out; simp only [bvs_length]; omega
      intro v1 w1 hown hg hat
      have hB1 : Below w3.heap.size w3 w1 := ((Below.refl _ _).alloc (Nat.le_refl _) _).grown hg (by simp) (fun k hk => by simp [Value.ownBlock] at hk; omega)
      have hfr : ∀ k, v1.ownBlock = some k → w3.heap.size ≤ k := fun k hk => by
        rcases hat with e | e <;> rw [hk] at e <;> simp [Value.ownBlock] at e <;> omega
      have hown1 : Own8 w1 v1 us := by simpa [Own8, bvs_length] using hown
      have hB5 := hB4.out.trans (hB1.mono hB4.out.size)
      have hsz := hB4.out.size
      clear hown hat hg hB1
      go_wp2
      go_ret2
      rw [ht2.out]
      exact ⟨v1, rfl, hown1, hB5, fun k hk => Nat.le_trans hsz (hfr k hk)⟩
    · have ht2 : Hid (openP bs = ([], 4)) := by show _ = _; rw [ht.out, if_neg he]
      have hbq : (sealP us == bs) = false := by simpa using he
      clear ht he
      refine mixsq rfl rfl 1 (by kernel_rfl) ?_ (fun w' hw' => Or.inl ?_) (fun K hK => ?_); rotate_left; (focus (go_simp; rfl)); go_simp; refine hK _ ?_; clear hK K
      refine mixs_nil ?_
      go_wp2
      go_ret2
      rw [ht2.out]
      exact ⟨_, rfl, World.ownsRow_nil _ _ _ _, hB3', fun k hk => by simp [Value.ownBlock] at hk⟩
end Go.Proofs.Ytoloogpglnonaaa
