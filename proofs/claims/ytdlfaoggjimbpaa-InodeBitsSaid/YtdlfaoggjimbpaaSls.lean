import Derived.Test.YtdlfaoggjimbpaaRop
import Derived.Deep.CutRange
namespace Go.Proofs.Ytdlfaoggjimbpaa
open Go.RowKit
theorem Own8.form {w : World} {v : Value} {xs : List UInt8} (h : Own8 w v xs) (hn : 0 < xs.length) : ∃ g cap, v = .slice (some ⟨g, 0, none⟩) xs.length cap := by
  rcases h.2 with ⟨rfl, hn'⟩ | ⟨g', cap, cur, rfl, _, hg, _⟩
  · omega
  · exact ⟨_, _, rfl⟩
theorem Own8.put {w : World} {g n cap : Nat} {xs : List UInt8} (h : Own8 w (.slice (some ⟨g, 0, none⟩) n cap) xs) (hn : n = xs.length) (j : Nat) (b : UInt8) :
    Own8 (w.setCell ⟨g, j, none⟩ (bv b)) (.slice (some ⟨g, 0, none⟩) n cap) (xs.set j b) := by
  subst hn
  have := (World.ownsRow.stored h j (bv b)).1
  unfold Own8
  rw [List.length_set, bvs, List.map_set]
  exact this
theorem ofNat_toNat8 (n : Nat) (h : n < 256) : (UInt8.ofNat n).toNat = n := by simp; omega
theorem pow8_lt (r : Nat) (h : r < 8) : 2 ^ r < 256 := Nat.pow_lt_pow_right (by omega) h
theorem pow_cast (r : Nat) : (2 : Int) ^ r = ((2 ^ r : Nat) : Int) := by rw [Int.natCast_pow]; rfl
theorem pow8_wrap (r : Nat) (h : r < 8) : IntKind.u8.wrap (2 ^ r) = 2 ^ r := by
  have := pow8_lt r h
  rw [pow_cast, IntKind.wrap_u8]
  generalize 2 ^ r = p at *
  omega
theorem xor_lt8 (v r : Nat) (hv : v < 256) (hr : r < 8) : v ^^^ 2 ^ r < 256 :=
  Nat.xor_lt_two_pow (n := 8) (by omega) (Nat.pow_lt_pow_right (by omega) hr)
theorem xor_ne (v r : Nat) : v ^^^ 2 ^ r ≠ v := by
  intro e
  have h := congrArg (fun z => z ^^^ v) e
  simp only [Nat.xor_comm v, Nat.xor_assoc, Nat.xor_self, Nat.xor_zero] at h
  have := Nat.two_pow_pos r
  omega
/-- One bit turned. -/
def flipB (c : UInt8) (r : Nat) : UInt8 := UInt8.ofNat (c.toNat ^^^ 2 ^ r)
theorem flipB_ne (c : UInt8) (r : Nat) (h : r < 8) : c ≠ flipB c r := by
  intro e
  have h1 := congrArg UInt8.toNat e
  unfold flipB at h1
  rw [ofNat_toNat8 _ (xor_lt8 _ r c.toNat_lt h)] at h1
  exact xor_ne _ _ h1.symm
set_option maxRecDepth 100000 in
set_option maxHeartbeats 4000000 in
theorem CodecSeals_calls (w : World) {x y : Value} {bs raw : List UInt8} {bit : Int} (xx0 : Rd w x (bvs bs)) (ll0 : bs.length ≤ 9223372036854775807)
    (xx1 : Rd w y (bvs raw)) (ll1 : raw.length ≤ 9223372036854775807) (ww2 : (Lit.int .i64 bit).wf = true) :
    Calls Try.prog 8 #[x, y, .int .i64 bit] w fun e w' => e = .returned (.bool true) ∧ Below w.heap.size w w' := by
  obtain ⟨i0, hi, hz0, hz1, hz2⟩ := info_parts Try.info_u8
  obtain ⟨n1, n2⟩ := wf64 ww2
  have hx0 := xx0
  have hy0 := xx1
  obtain ⟨A, c, rfl⟩ := xx0.shape8
  obtain ⟨A', c', rfl⟩ := xx1.shape8
  by_cases hg : bs.length ≤ 4096 ∧ raw.length ≤ 4096
  · obtain ⟨g0, g1⟩ := hg
    go_enter Try.func8, Try.ntmps8
    go_wp2_with fail
    refine (known_calls w).mono ?_
    rintro e w1 ⟨rfl, hB1⟩
    have hsl := sealP_len bs
    go_wp2_with fail
    refine (Seal_calls w1 _ bs (hx0.below hB1) (by omega)).mono ?_
    rintro e w2 ⟨sv, rfl, hs2, hB2, hf2⟩
    have hs2 : Own8 w2 sv (sealP bs) := hs2
    have hB2 := hB1.trans (hB2.mono hB1.size)
    obtain ⟨gs, cs, rfl⟩ := hs2.form (by omega)
    obtain ⟨sl, hslq⟩ : ∃ sl, Hid (sl = sealP bs) := ⟨_, rfl⟩
    rw [← hslq.out] at hs2 hsl ⊢
    have HL := Lib.hid hsl
    clear hsl
    have r2 := Rd.of_own hs2
    go_wp2_with fail
    refine (Open_calls w2 _ sl r2 (by have := HL.out; omega)).mono ?_
    rintro e w3 ⟨xv, rfl, hx3, hB3, hf3⟩
    have ho := open_seal bs
    rw [← hslq.out] at ho
    rw [ho] at hx3 ⊢
    simp only at hx3 ⊢
    have r3 := r2.below hB3
    have hB3' := hB2.trans (hB3.mono hB2.size)
    obtain ⟨A3, c3, rfl⟩ := hx3.shape
    obtain ⟨op, hop⟩ : ∃ op, Hid (op = openP raw) := ⟨_, rfl⟩
    have HO := Lib.hid (Open_calls w3 _ raw (hy0.below hB3') (by omega))
    rw [← hop.out] at HO
    go_wp2_with fail
    refine HO.out.mono ?_
    rintro e w4 ⟨yv, rfl, hy4, hB4, hf4⟩
    have hB4' := hB3'.trans (hB4.mono hB3'.size)
    have HP := Lib.hid (ROpen_calls w4 _ raw (hy0.below hB4') (by omega))
    rw [← hop.out] at HP
    clear HO
    obtain ⟨A4, c4, rfl⟩ := hy4.shape
    go_wp2_with fail
    refine HP.out.mono ?_
    rintro e w5 ⟨zv, rfl, hz5, hB5, hf5⟩
    have hB5' := hB4'.trans (hB5.mono hB4'.size)
    clear HP hop
    obtain ⟨A5, c5, rfl⟩ := hz5.shape
    obtain ⟨os, oe⟩ := op
    simp only at *
    have k1 := (r3.below hB4).below hB5
    have k2 := ((Rd.of_own hx3).below hB4).below hB5
    have k3 := (Rd.of_own hy4).below hB5
    have k4 := Rd.of_own hz5
    have k5 := hx0.below hB5'
    have rs : ∀ {v : Value} {us : List UInt8}, Rd w5 v (bvs us) → ∀ W, Below w5.heap.size w5 W → (convert 28 9 v).run Try.prog W = .ok (.string ⟨us.toArray⟩) W := fun h W hW => run_str (P := Try.prog) W 28 9 5 _ _ Try.underlying28 Try.underlying5 Try.underlying9 (h.below hW)
    have K1 := Lib.hid (rs k1)
    have K2 := Lib.hid (rs k2)
    have K3 := Lib.hid (rs k3)
    have K4 := Lib.hid (rs k4)
    have K5 := Lib.hid (rs k5)
    have R1 := Lib.hid k1
    have R5 := Lib.hid k5
    have HB := Lib.hid hB5'
    have HS := hslq
    clear k1 k2 k3 k4 k5 rs r2 r3 hx3 hy4 hz5 hf2 hf3 hf4 hf5 hB2 hB3 hB3' hB4 hB4' hB5 hB5' ho hs2 hB1
    have HC := Lib.hid (RSeal_calls w5.drew _ bs (Rd.drew R5.out) (by omega))
    have HD := Lib.hid (fun W (h : Below w5.heap.size w5 W) => Sum_calls W _ bs (R5.out.below h) (by omega))
    have HE := Lib.hid (fun W (h : Below w5.heap.size w5 W) => RSum_calls W _ bs (R5.out.below h) (by omega))
    generalize crcP bs = cr at *
    rw [show sealP bs = sl from hslq.out.symm] at HC
    go_wp2_with fail
    refine wp_mixs (fun W => Below w5.heap.size w5 W) [3, 31, 33] (by kernel_rfl) (by kernel_rfl) (by kernel_rfl) (by decide) ((Below.refl _ _).drew) ?_
    refine mixsq rfl rfl 0 (by kernel_rfl) ?_ (fun w' hw' => Or.inl ?_) (fun K hK => ?_); rotate_left; (focus (have hw2 : Below w5.heap.size w5 w' := hw'; go_simp; rfl)); go_simp; refine hK _ ?_; clear hK K
    refine mixsq rfl rfl 0 (by kernel_rfl) ?_ (fun w' hw' => Or.inl ?_) (fun K hK => ?_); rotate_left; (focus (have hw2 : Below w5.heap.size w5 w' := hw'; have sK1 := K1.out w' hw2; go_simp; rfl)); go_simp; refine hK _ ?_; clear hK K
    refine mixsq rfl rfl 0 (by kernel_rfl) ?_ (fun w' hw' => Or.inl ?_) (fun K hK => ?_); rotate_left; (focus (have hw2 : Below w5.heap.size w5 w' := hw'; go_simp; rfl)); go_simp; refine hK _ ?_; clear hK K
    refine mixsl rfl rfl (fun K hK => ?_)
    go_simp
    refine HC.out.mono ?_
    rintro e w6 ⟨r, rfl, ho6, hB6, hr6⟩
    have b6 : Below w5.heap.size w5 w6 := ⟨hB6.os, hB6.tape, hB6.output, hB6.size, hB6.block⟩
    refine hK (fun W => Below w5.heap.size w5 W ∧ Rd W r (bvs sl)) _ _ (fun _ => ⟨⟨b6, Rd.of_own ho6⟩, fun _ => b6⟩) ?_
    clear hK K HC
    refine mixsq rfl rfl 1 (by kernel_rfl) ?_ (fun w' hw' => Or.inl ?_) (fun K hK => ?_); rotate_left
    · have hw2 : Below w5.heap.size w5 w' ∧ Rd w' r (bvs sl) := hw'
      have s1 := run_str (P := Try.prog) w' 28 9 5 _ _ Try.underlying28 Try.underlying5 Try.underlying9 hw2.2
      unfold str at s1
      go_simp
      rfl
    go_simp; refine hK _ ?_; clear hK K
    refine mixsq rfl rfl 1 (by kernel_rfl) ?_ (fun w' hw' => Or.inl ?_) (fun K hK => ?_); rotate_left; (focus (have hw2 : Below w5.heap.size w5 w' ∧ Rd w' r (bvs sl) := hw'; go_simp; rfl)); go_simp; refine hK _ ?_; clear hK K
    refine mixsq rfl rfl 1 (by kernel_rfl) ?_ (fun w' hw' => Or.inl ?_) (fun K hK => ?_); rotate_left; (focus (have hw2 : Below w5.heap.size w5 w' ∧ Rd w' r (bvs sl) := hw'; go_simp; rfl)); go_simp; refine hK _ ?_; clear hK K
    refine mixsq_yes rfl (by first | rfl | kernel_rfl) 1 (by kernel_rfl) ?_ (fun w' hw' => Or.inl ?_) (fun K hK => ?_); rotate_left; (focus (have hw2 : Below w5.heap.size w5 w' ∧ Rd w' r (bvs sl) := hw'; go_simp; rfl)); go_simp; refine hK _ ?_; clear hK K
    refine mixsq_yes rfl (by first | rfl | kernel_rfl) 1 (by kernel_rfl) ?_ (fun w' hw' => Or.inl ?_) (fun K hK => ?_); rotate_left; (focus (have hw2 : Below w5.heap.size w5 w' ∧ Rd w' r (bvs sl) := hw'; have sK2 := K2.out w' hw2.1; go_simp; rfl)); go_simp; refine hK _ ?_; clear hK K
    refine mixsq_yes rfl (by first | rfl | kernel_rfl) 1 (by kernel_rfl) ?_ (fun w' hw' => Or.inl ?_) (fun K hK => ?_); rotate_left; (focus (have hw2 : Below w5.heap.size w5 w' ∧ Rd w' r (bvs sl) := hw'; go_simp; rfl)); go_simp; refine hK _ ?_; clear hK K
    refine mixsq_yes rfl (by first | rfl | kernel_rfl) 1 (by kernel_rfl) ?_ (fun w' hw' => Or.inl ?_) (fun K hK => ?_); rotate_left; (focus (have hw2 : Below w5.heap.size w5 w' ∧ Rd w' r (bvs sl) := hw'; have sK5 := K5.out w' hw2.1; go_simp; rfl)); go_simp; refine hK _ ?_; clear hK K
    refine mixsq_yes rfl (by first | rfl | kernel_rfl) 1 (by kernel_rfl) ?_ (fun w' hw' => Or.inl ?_) (fun K hK => ?_); rotate_left; (focus (have hw2 : Below w5.heap.size w5 w' ∧ Rd w' r (bvs sl) := hw'; go_simp; rfl)); go_simp; refine hK _ ?_; clear hK K
    refine mixsq rfl rfl 1 (by kernel_rfl) ?_ (fun w' hw' => Or.inl ?_) (fun K hK => ?_); rotate_left; (focus (have hw2 : Below w5.heap.size w5 w' ∧ Rd w' r (bvs sl) := hw'; go_simp; rfl)); go_simp; refine hK _ ?_; clear hK K
    refine mixsq rfl rfl 1 (by kernel_rfl) ?_ (fun w' hw' => Or.inl ?_) (fun K hK => ?_); rotate_left; (focus (have hw2 : Below w5.heap.size w5 w' ∧ Rd w' r (bvs sl) := hw'; go_simp; rfl)); go_simp; refine hK _ ?_; clear hK K
    iterate 2 (refine mixsq_yes rfl (by first | rfl | kernel_rfl) 1 (by kernel_rfl) ?_ (fun w' hw' => Or.inl ?_) (fun K hK => ?_); rotate_left; (focus (have hw2 : Below w5.heap.size w5 w' ∧ Rd w' r (bvs sl) := hw'; go_simp; rfl)); go_simp; refine hK _ ?_; clear hK K)
    refine mixsq rfl rfl 1 (by kernel_rfl) ?_ (fun w' hw' => Or.inl ?_) (fun K hK => ?_); rotate_left; (focus (have hw2 : Below w5.heap.size w5 w' ∧ Rd w' r (bvs sl) := hw'; go_simp; rfl)); go_simp; refine hK _ ?_; clear hK K
    refine mixsq rfl rfl 1 (by kernel_rfl) ?_ (fun w' hw' => Or.inl ?_) (fun K hK => ?_); rotate_left; (focus (have hw2 : Below w5.heap.size w5 w' ∧ Rd w' r (bvs sl) := hw'; go_simp; rfl)); go_simp; refine hK _ ?_; clear hK K
    refine mixsq_yes rfl (by first | rfl | kernel_rfl) 1 (by kernel_rfl) ?_ (fun w' hw' => Or.inl ?_) (fun K hK => ?_); rotate_left; (focus (have hw2 : Below w5.heap.size w5 w' ∧ Rd w' r (bvs sl) := hw'; go_simp; rfl)); go_simp; refine hK _ ?_; clear hK K
    refine mixsq_yes rfl (by first | rfl | kernel_rfl) 1 (by kernel_rfl) ?_ (fun w' hw' => Or.inl ?_) (fun K hK => ?_); rotate_left; (focus (have hw2 : Below w5.heap.size w5 w' ∧ Rd w' r (bvs sl) := hw'; have sK3 := K3.out w' hw2.1; go_simp; rfl)); go_simp; refine hK _ ?_; clear hK K
    refine mixsq_yes rfl (by first | rfl | kernel_rfl) 1 (by kernel_rfl) ?_ (fun w' hw' => Or.inl ?_) (fun K hK => ?_); rotate_left; (focus (have hw2 : Below w5.heap.size w5 w' ∧ Rd w' r (bvs sl) := hw'; go_simp; rfl)); go_simp; refine hK _ ?_; clear hK K
    refine mixsq_yes rfl (by first | rfl | kernel_rfl) 1 (by kernel_rfl) ?_ (fun w' hw' => Or.inl ?_) (fun K hK => ?_); rotate_left; (focus (have hw2 : Below w5.heap.size w5 w' ∧ Rd w' r (bvs sl) := hw'; have sK4 := K4.out w' hw2.1; go_simp; rfl)); go_simp; refine hK _ ?_; clear hK K
    refine mixsq_yes rfl (by first | rfl | kernel_rfl) 1 (by kernel_rfl) ?_ (fun w' hw' => Or.inl ?_) (fun K hK => ?_); rotate_left; (focus (have hw2 : Below w5.heap.size w5 w' ∧ Rd w' r (bvs sl) := hw'; go_simp; rfl)); go_simp; refine hK _ ?_; clear hK K
    refine mixsq rfl rfl 1 (by kernel_rfl) ?_ (fun w' hw' => Or.inl ?_) (fun K hK => ?_); rotate_left; (focus (have hw2 : Below w5.heap.size w5 w' ∧ Rd w' r (bvs sl) := hw'; go_simp; rfl)); go_simp; refine hK _ ?_; clear hK K
    refine mixsq rfl rfl 1 (by kernel_rfl) ?_ (fun w' hw' => Or.inl ?_) (fun K hK => ?_); rotate_left; (focus (have hw2 : Below w5.heap.size w5 w' ∧ Rd w' r (bvs sl) := hw'; go_simp; rfl)); go_simp; refine hK _ ?_; clear hK K
    iterate 3 (refine mixsq_yes rfl (by first | rfl | kernel_rfl) 1 (by kernel_rfl) ?_ (fun w' hw' => Or.inl ?_) (fun K hK => ?_); rotate_left; (focus (have hw2 : Below w5.heap.size w5 w' ∧ Rd w' r (bvs sl) := hw'; go_simp; rfl)); go_simp; refine hK _ ?_; clear hK K)
    refine mixsq rfl rfl 1 (by kernel_rfl) ?_ (fun w' hw' => Or.inl ?_) (fun K hK => ?_); rotate_left; (focus (have hw2 : Below w5.heap.size w5 w' ∧ Rd w' r (bvs sl) := hw'; go_simp; rfl)); go_simp; refine hK _ ?_; clear hK K
    refine mixsq rfl rfl 1 (by kernel_rfl) ?_ (fun w' hw' => Or.inl ?_) (fun K hK => ?_); rotate_left; (focus (have hw2 : Below w5.heap.size w5 w' ∧ Rd w' r (bvs sl) := hw'; go_simp; rfl)); go_simp; refine hK _ ?_; clear hK K
    refine mixsq_yes rfl (by first | rfl | kernel_rfl) 1 (by kernel_rfl) ?_ (fun w' hw' => Or.inl ?_) (fun K hK => ?_); rotate_left; (focus (have hw2 : Below w5.heap.size w5 w' ∧ Rd w' r (bvs sl) := hw'; go_simp; rfl)); go_simp; refine hK _ ?_; clear hK K
    refine mixsl_yes rfl (by first | rfl | kernel_rfl) (fun K hK => ?_)
    go_simp
    refine (HD.out w6 b6).mono ?_
    rintro e w7 ⟨rfl, hB7⟩
    have b7 : Below w5.heap.size w5 w7 := b6.trans (hB7.mono b6.size)
    refine hK (fun W => Below w5.heap.size w5 W) _ _ (fun _ => ⟨b7, ext_all (fun _ => b7) ⟨b7, (Rd.of_own ho6).below hB7⟩⟩) ?_
    clear hK K
    have ho7 := (Rd.of_own ho6).below hB7
    clear ho6
    first
    | (refine mixsq_yes rfl (by first | rfl | kernel_rfl) 1 (by kernel_rfl) ?_ (fun w' hw' => Or.inl ?_) (fun K hK => ?_); rotate_left; (focus (go_simp; rfl)); go_simp; refine hK _ ?_; clear hK K)
    | (refine mixsq_yes rfl (by first | rfl | kernel_rfl) 2 (by kernel_rfl) ?_ (fun w' hw' => Or.inl ?_) (fun K hK => ?_); rotate_left; (focus (go_simp; rfl)); go_simp; refine hK _ ?_; clear hK K)
    refine mixsl_yes rfl (by first | rfl | kernel_rfl) (fun K hK => ?_)
    go_simp
    refine (HE.out w7 b7).mono ?_
    rintro e w8 ⟨rfl, rfl⟩
    refine hK (fun W => Below w5.heap.size w5 W) _ _ (fun _ => ⟨b7, ext_all (ext_all (fun _ => b7) ⟨b7, ho7⟩) b7⟩) ?_
    clear hK K ho7
    refine mixsq_yes rfl (by first | rfl | kernel_rfl) 3 (by kernel_rfl) ?_ (fun w' hw' => Or.inl ?_) (fun K hK => ?_); rotate_left; (focus (go_simp; rfl)); go_simp; refine hK _ ?_; clear hK K
    refine mixsq rfl rfl 3 (by kernel_rfl) ?_ (fun w' hw' => Or.inl ?_) (fun K hK => ?_); rotate_left; (focus (go_simp; rfl)); go_simp; refine hK _ ?_; clear hK K
    refine mixs_nil ?_
    have R7 := Lib.hid (R1.out.below b7)
    have HB7 := Lib.hid (HB.out.trans (b7.mono HB.out.size))
    clear HD HE K1 K2 K3 K4 K5 R1 R5 b6 hB7 b7 HB hs2
    obtain ⟨L, hLq⟩ : ∃ L, Hid (L = sl.length) := ⟨_, rfl⟩
    rw [← hLq.out] at HL ⊢
    have hL0 : 4 ≤ L := by have := HL.out; omega
    have hL1 : L ≤ 4100 := by have := HL.out; omega
    have hqa : Int.tmod bit (8 * (L : Int)) < 8 * (L : Int) := Int.tmod_lt_of_pos _ (by omega)
    have hqb : -(8 * (L : Int)) < Int.tmod bit (8 * (L : Int)) := Int.lt_tmod_of_pos _ (by omega)
    have h8 : ¬ (8 * (L : Int) = 0) := by omega
    have R8 : Hid (Rd (w7.alloc (.cells #[] 5)) (.slice (some ⟨gs, 0, none⟩) L cs) (bvs sl)) := by
      have := R7.out
      rw [← hLq.out] at this
      exact this.alloc _
    by_cases hq0 : Int.tmod bit (8 * (L : Int)) < 0
    all_goals
      go_wp2_with (at_builtin; refine stop_app rfl ?_)
      refine Stop.mk (wpList_app _ rfl rfl (us := bvs sl) (base := 0) Try.underlying28 hi hz0 hz1 hz2 rfl (World.ownsRow_made w7 #[] 0 (Nat.zero_le _) (by unfold maxLen; omega) rfl) rfl R8.out rfl (bvs_one _) ?_ ?_ (Nat.zero_le _) ?_)
      · have := hLq.out; unfold maxLen; simp only [bvs_length]; omega
      · have := hLq.out; simp only [bvs_length]; omega
      intro v9 w9 hown hg hat
      have hB9 : Below w7.heap.size w7 w9 := ((Below.refl _ _).alloc (Nat.le_refl _) _).grown hg (by simp) (fun k hk => by simp [Value.ownBlock] at hk; omega)
      have hfr : ∀ k, v9.ownBlock = some k → w7.heap.size ≤ k := fun k hk => by
        rcases hat with e | e <;> rw [hk] at e <;> simp [Value.ownBlock] at e <;> omega
      have hown9 : Own8 w9 v9 sl := by simpa [Own8, bvs_length] using hown
      have hHB9 := Lib.hid (HB7.out.trans (hB9.mono HB7.out.size))
      have hsz7 := HB7.out.size
      clear hown hat hg
      obtain ⟨g9, c9, rfl⟩ := hown9.form (by have := hLq.out; omega)
      rw [← hLq.out]
      have hm2 : ∃ m : Nat, m < 8 * L ∧ (if Int.tmod bit (8 * (L : Int)) < 0 then Int.tmod bit (8 * (L : Int)) + 8 * (L : Int) else Int.tmod bit (8 * (L : Int))) = (m : Int) := by
        split
        · exact ⟨(Int.tmod bit (8 * (L : Int)) + 8 * (L : Int)).toNat, by omega, by omega⟩
        · exact ⟨(Int.tmod bit (8 * (L : Int))).toNat, by omega, by omega⟩
      obtain ⟨m, hmL, hm2⟩ := hm2
      first
      | rw [if_pos (by omega)] at hm2
      | rw [if_neg (by omega)] at hm2
      rw [hm2]
      clear hm2 hq0 hqa hqb h8
      have hq2 : m / 8 < sl.length := by rw [← hLq.out]; omega
      obtain ⟨ad, c10, e, hc⟩ := (Rd.of_own hown9).at8 hq2
      have hf9 := World.ownsRow.frozenAt hown9 (m / 8)
      have hput := hown9.put rfl (m / 8) (flipB sl[m / 8] (m % 8))
      rw [← hLq.out] at hput
      injection e with e e2 e3
      injection e with e
      subst e
      clear e2 e3
      rw [addr_add_at, Nat.zero_add] at hc
      have hv2 : sl[m / 8].toNat < 256 := sl[m / 8].toNat_lt
      have hne : sl[m / 8] ≠ flipB sl[m / 8] (m % 8) := flipB_ne _ _ (by omega)
      have hO : Hid (openP (sl.set (m / 8) (flipB sl[m / 8] (m % 8))) = ([], 4)) := by
        have hS := HS.out
        subst hS
        exact open_set bs (m / 8) hq2 _ hne
      unfold flipB at hO hput
      unfold bv at hc hput
      rw [ofNat_toNat8 _ (xor_lt8 _ _ hv2 (by omega))] at hput
      have hlen : Hid ((sl.set (m / 8) (UInt8.ofNat (sl[m / 8].toNat ^^^ 2 ^ (m % 8)))).length = L) := by show _ = _; rw [List.length_set, hLq.out]
      generalize sl.set (m / 8) (UInt8.ofNat (sl[m / 8].toNat ^^^ 2 ^ (m % 8))) = us at *
      obtain ⟨r, hr⟩ : ∃ r, r = m % 8 := ⟨_, rfl⟩
      have hr8 : r < 8 := by omega
      have hre : (m : Int) % 8 = (r : Int) := by omega
      rw [← hr] at hput
      generalize sl[m / 8].toNat = v at *
      obtain ⟨q, hq1⟩ : ∃ q, q = m / 8 := ⟨_, rfl⟩
      rw [← hq1] at hc hput hf9
      have hqe : (m : Int) / 8 = (q : Int) := by omega
      have hqL : q < L := by rw [hq1]; omega
      have hmm : m < 40000 := by omega
      clear hq1 hr hne hq2
      have hsh := pow8_wrap r hr8
      obtain ⟨y, hy⟩ : ∃ y, y = v ^^^ 2 ^ r := ⟨_, rfl⟩
      have hor2 : bits .xor .u8 (v : Int) (2 ^ r) = (y : Int) := by
        rw [pow_cast, bits_xor_u8 _ _ hv2 (pow8_lt r hr8), hy]
      rw [← hy] at hput
      clear hy
      have hbb : Below w.heap.size w (w9.setCell ⟨g9, q, none⟩ (.int .u8 (y : Int))) := hHB9.out.setCell (p := ⟨g9, q, none⟩) (by have := hfr g9 rfl; exact Nat.le_trans hsz7 this) _
      have HOp := Lib.hid (Open_calls (w9.setCell ⟨g9, q, none⟩ (.int .u8 (y : Int))) _ us (Rd.of_own hput) (by have := hlen.out; omega))
      rw [hO.out] at HOp
      clear hput
      go_wp2_with fail
      refine HOp.out.mono ?_
      rintro e w10 ⟨rv, rfl, ho10, hB10, _⟩
      have hbe : Below w.heap.size w w10 := hbb.trans (hB10.mono hbb.size)
      obtain ⟨A10, c11, rfl⟩ := ho10.shape
      clear HOp hO
      go_wp2
      go_ret
      exact ⟨rfl, hbe⟩
  · have hc : 4096 < bs.length ∨ (bs.length ≤ 4096 ∧ 4096 < raw.length) := by omega
    clear hg
    rcases hc with hc | ⟨c1, c2⟩
    all_goals
      go_enter Try.func8, Try.ntmps8
      go_wp2_with fail
      refine (known_calls w).mono ?_
      rintro e w1 ⟨rfl, hB1⟩
      go_wp2
      go_ret
      exact ⟨rfl, hB1⟩
end Go.Proofs.Ytdlfaoggjimbpaa
