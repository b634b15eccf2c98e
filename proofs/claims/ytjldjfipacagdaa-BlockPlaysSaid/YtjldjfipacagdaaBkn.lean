/- The law's known case, walked. -/
import Derived.Test.YtjldjfipacagdaaBz
namespace Go.Proofs.Ytjldjfipacagdaa
open Go.RowKit
theorem NewOut.ok {w w' : World} {n : Int} {e : Ending} (h : NewOut w n e w') (hn : ¬ (n < 1 ∨ 16384 < n)) : ∃ g S, e = .returned (.tuple #[.pointer (some ⟨g, 0, none⟩), .int .i64 0]) ∧ DK w' g (newD n.toNat) S ∧ Below w.heap.size w w' ∧ ∀ k, S k → w.heap.size ≤ k := by
  unfold NewOut NewOutF at h
  rwa [if_neg hn] at h
theorem NewOut.bad {w w' : World} {n : Int} {e : Ending} (h : NewOut w n e w') (hn : n < 1 ∨ 16384 < n) : e = .returned (.tuple #[.pointer none, .int .i64 1]) ∧ w = w' := by
  unfold NewOut NewOutF at h
  rwa [if_pos hn] at h
theorem FullOne (w : World) (b : UInt8) : Calls Try.prog 11 #[.slice (some ⟨w.heap.size, 0, none⟩) 1 1] (w.alloc (.cells #[bv b] 5)) (fun e w' => ∃ A c, e = .returned (.slice A 512 c) ∧ Own8 w' (.slice A 512 c) (fullP [b]) ∧ Below w.heap.size w w') := by
  refine (Full_calls _ _ [b] (rd_new w (bvs [b]) 5 1 rfl) (by simp)).mono ?_
  rintro e w' ⟨r, rfl, ho, hB, _⟩
  obtain ⟨A, c, e⟩ := ho.shape
  rw [fullP_len] at e
  subst e
  exact ⟨A, c, rfl, ho, ((Below.refl w.heap.size w).alloc (Nat.le_refl _) _).trans (hB.mono (by simp))⟩
theorem FullM (w : World) (b : UInt8) (m : Nat × Nat) : Calls Try.prog 11 #[.slice (some ⟨w.heap.size, 0, none⟩) 1 1] (w.alloc (.cells #[bv b] 5 m)) (fun e w' => ∃ A c, e = .returned (.slice A 512 c) ∧ Own8 w' (.slice A 512 c) (fullP [b]) ∧ Below w.heap.size w w') := by
  have hr : Rd (w.alloc (.cells #[bv b] 5 m)) (.slice (some ⟨w.heap.size, 0, none⟩) 1 1) (bvs [b]) := by
    refine ⟨_, 1, rfl, Nat.le_refl _, fun _ => ⟨_, rfl, fun j u hu => ?_⟩⟩
    rw [addr_add_at, Nat.zero_add]
    have e := heap_alloc_new w (.cells #[bv b] 5 m)
    simp only [World.cell?, e]
    simpa [bvs] using hu
  refine (Full_calls _ _ [b] hr (by simp)).mono ?_
  rintro e w' ⟨r, rfl, ho, hB, _⟩
  obtain ⟨A, c, e⟩ := ho.shape
  rw [fullP_len] at e
  subst e
  exact ⟨A, c, rfl, ho, ((Below.refl w.heap.size w).alloc (Nat.le_refl _) _).trans (hB.mono (by simp))⟩
theorem ReadOut.ok {w w' : World} {d : Dk} {n : Nat} {e : Ending} (h : ReadOut w d (n : Int) e w') (h0 : askP d (n : Int) = 0) (h5 : (lastP d n).length = 512) : ∃ A c, e = .returned (.tuple #[.slice A 512 c, .int .i64 0]) ∧ Own8 w' (.slice A 512 c) (lastP d n) ∧ Below w.heap.size w w' := by
  rcases h with ⟨_, r, rfl, ho, hB, _⟩ | ⟨h1, _⟩
  · rw [Int.toNat_natCast] at ho
    obtain ⟨A, c, e⟩ := ho.shape
    rw [h5] at e
    subst e
    exact ⟨A, c, rfl, ho, hB⟩
  · exact absurd h0 h1
theorem ReadOut.bad {w w' : World} {d : Dk} {n : Int} {e : Ending} (h : ReadOut w d n e w') (h0 : askP d n ≠ 0) : e = .returned (.tuple #[.slice none 0 0, .int .i64 (askP d n)]) ∧ w = w' := by
  rcases h with ⟨h1, _⟩ | ⟨_, h1⟩
  · exact absurd h1 h0
  · exact h1
theorem ints1 (w : World) (x : Int) : RdT (fun _ => True) 3 (w.alloc (.cells #[.int .i64 x] 3)) (.slice (some ⟨w.heap.size, 0, none⟩) 1 1) (ivs [x]) := ⟨rd_new w (ivs [x]) 3 1 rfl, fun _ => ⟨w.heap.size, _, rfl, Blk.new _ _ _, trivial⟩⟩
theorem alloc_below (w : World) (o : Obj) : Below w.heap.size w (w.alloc o) := (Below.refl _ _).alloc (Nat.le_refl _) _
set_option maxRecDepth 10000 in
set_option maxHeartbeats 4000000 in
theorem known_calls (w : World) : Calls Try.prog 8 #[] w fun e w' => e = .returned (.bool true) ∧ Below w.heap.size w w' := by
  obtain ⟨A, hA⟩ : ∃ A, Hid (A = fullP [97]) := ⟨_, Lib.hid rfl⟩
  obtain ⟨B, hBq⟩ : ∃ B, Hid (B = fullP [98]) := ⟨_, Lib.hid rfl⟩
  obtain ⟨C, hCq⟩ : ∃ C, Hid (C = fullP [99]) := ⟨_, Lib.hid rfl⟩
  have lA : Hid (A.length = 512) := by rw [hA.out]; exact fullP_len _
  have lB : Hid (B.length = 512) := by rw [hBq.out]; exact fullP_len _
  have lC : Hid (C.length = 512) := by rw [hCq.out]; exact fullP_len _
  have hcv := fun (W : World) (C : Array Value) => Lib.run_convert_bytes_const (P := Try.prog) W 22 5 C 1 1 Try.underlying22 Try.underlying5
  go_enter Try.func8, Try.ntmps8
  go_wp2_with fail
  refine (New_calls w 2).mono ?_
  intro e w1 h
  obtain ⟨g, S, rfl, hdk, hb, hn⟩ := h.ok (by omega)
  have hs : St w w1 g kn0 S := St.made (Below.refl _ _) hdk hb hn
  have hs := Lib.hid hs
  clear h hdk hb hn
  go_wp2_with fail
  refine (FullM w1 97 (1, 2)).mono ?_
  rintro e w1a ⟨fA, fc, rfl, hfo, hfb⟩
  have hsa := hs.out.go hfb
  rw [← hA.out] at hfo
  have hW := Write_calls w1a g _ S hsa.dk 1 _ A (Rd.of_own hfo) (hsa.not8 hfo) (by rw [lA.out]; omega) (show 2 ≤ 16384 by omega) (by simp [waitP, kn0, kn0, newD]) (show (0 : Int) ≤ _ by omega) (Nat.zero_le _)
  rw [kn_w1 A lA.out] at hW
  have hW := Lib.hid hW
  have hsa := Lib.hid hsa
  clear hfo hfb hs
  go_wp2_with fail
  refine hW.out.mono ?_
  rintro e w2 ⟨rfl, hw⟩
  obtain ⟨S1, hs1, _, _⟩ := hsa.out.wrote hw
  have hs1 := Lib.hid hs1
  clear hW hsa hw
  go_wp2_with fail
  refine (Sync_calls w2 g (kn1 A) S1 hs1.out.dk rfl (show 2 ≤ 16384 by omega) (by simp [waitP, kn1])).mono ?_
  rintro e w3 ⟨rfl, hw⟩
  rw [kn_s] at hw
  obtain ⟨S2, hs2, _, _⟩ := hs1.out.wrote hw
  have hs2 := Lib.hid hs2
  clear hs1 hw
  go_wp2_with fail
  refine (FullM w3 98 (1, 2)).mono ?_
  rintro e w3a ⟨fA, fc, rfl, hfo, hfb⟩
  have hsa := hs2.out.go hfb
  rw [← hBq.out] at hfo
  have hW := Write_calls w3a g _ S2 hsa.dk 1 _ B (Rd.of_own hfo) (hsa.not8 hfo) (by rw [lB.out]; omega) (show 2 ≤ 16384 by omega) (by simp [waitP, kn2, kn0, newD]) (show (0 : Int) ≤ _ by omega) (Nat.zero_le _)
  rw [kn_w2 A B lB.out] at hW
  have hW := Lib.hid hW
  have hsa := Lib.hid hsa
  clear hfo hfb hs2
  go_wp2_with fail
  refine hW.out.mono ?_
  rintro e w4 ⟨rfl, hw⟩
  obtain ⟨S3, hs3, _, _⟩ := hsa.out.wrote hw
  have hs3 := Lib.hid hs3
  clear hW hsa hw
  go_wp2_with fail
  refine (FullM w4 99 (1, 2)).mono ?_
  rintro e w4a ⟨fA, fc, rfl, hfo, hfb⟩
  have hsa := hs3.out.go hfb
  rw [← hCq.out] at hfo
  have hW := Write_calls w4a g _ S3 hsa.dk 1 _ C (Rd.of_own hfo) (hsa.not8 hfo) (by rw [lC.out]; omega) (show 2 ≤ 16384 by omega) (by simp [waitP, kn3, kn0, newD]) (show (0 : Int) ≤ _ by omega) (Nat.zero_le _)
  rw [kn_w3 A B C lC.out] at hW
  have hW := Lib.hid hW
  have hsa := Lib.hid hsa
  clear hfo hfb hs3
  go_wp2_with fail
  refine hW.out.mono ?_
  rintro e w5 ⟨rfl, hw⟩
  obtain ⟨S4, hs4, _, _⟩ := hsa.out.wrote hw
  have hs4 := Lib.hid hs4
  clear hW hsa hw
  go_wp2_with fail
  refine (Twin_calls w5 g (kn4 A B C) S4 hs4.out.dk (show 0 < 2 by omega) (show 2 ≤ 16384 by omega) (by simp [waitP, kn4]) (Nat.zero_le _)).mono ?_
  rintro e w6 ⟨t, T, rfl, htd, htb, htn⟩
  have h2 := Lib.hid (St2.twin hs4.out htd htb htn)
  clear hs4 htd htb htn
  have h2a := Lib.hid (h2.out.go (alloc_below w6 (.cells #[.int .i64 1] 3)))
  have hC1 := Lib.hid (Cut_calls _ g _ _ h2a.out.one.dk rfl (show 2 ≤ 16384 by omega) (by simp [waitP, kn4]) _ [1] (ints1 w6 1).1 (fun hne => (ints1 w6 1).away h2a.out.one.dk.noti (ivs_ne hne)) (by simp))
  go_wp2_with fail
  refine hC1.out.mono ?_
  rintro e w7 ⟨rfl, hw⟩
  rw [kn_c1] at hw
  obtain ⟨S5, h3, _⟩ := h2a.out.wrote hw
  have h3 := Lib.hid h3
  clear hC1 h2a h2 hw
  have h3a := Lib.hid (h3.out.go (alloc_below w7 (.cells #[.int .i64 0] 3))).swap
  have hC1 := Lib.hid (Cut_calls _ t _ _ h3a.out.one.dk rfl (show 2 ≤ 16384 by omega) (by simp [waitP, kn4]) _ [0] (ints1 w7 0).1 (fun hne => (ints1 w7 0).away h3a.out.one.dk.noti (ivs_ne hne)) (by simp))
  go_wp2_with fail
  refine hC1.out.mono ?_
  rintro e w8 ⟨rfl, hw⟩
  rw [kn_c0] at hw
  obtain ⟨T2, h4, _⟩ := h3a.out.wrote hw
  have h4 := Lib.hid h4
  clear hC1 h3a h3 hw
  go_wp2_with fail
  refine (Read_calls w8 g (kn5 B) S5 h4.out.two.dk 1 (show 2 ≤ 16384 by omega) (by simp [kn5])).mono ?_
  intro e w9 hr
  obtain ⟨rfl, rfl⟩ := hr.bad (show (6 : Int) ≠ 0 by decide)
  rw [show askP (kn5 B) 1 = 6 from rfl]
  clear hr
  go_wp2_with fail
  refine (On_calls w8 g (kn5 B) S5 h4.out.two.dk).mono ?_
  rintro e w9 ⟨rfl, hw⟩
  rw [kn_o] at hw
  obtain ⟨S6, h5, _⟩ := h4.out.swap.wrote hw
  have h5 := Lib.hid h5
  clear h4 hw
  go_wp2_with fail
  refine (On_calls w9 t (kn5 A) T2 h5.out.two.dk).mono ?_
  rintro e w10 ⟨rfl, hw⟩
  rw [kn_o] at hw
  obtain ⟨T3, h6, _⟩ := h5.out.swap.wrote hw
  have h6 := Lib.hid h6
  clear h5 hw
  have hr1 := Lib.hid (Read_calls w10 g (kn6 B) S6 h6.out.two.dk ((1 : Nat) : Int) (show 2 ≤ 16384 by omega) (by simp [kn6]))
  go_wp2_with fail
  refine hr1.out.mono ?_
  intro e w11 hr
  obtain ⟨xA, xc, rfl, hx, hxb⟩ := hr.ok rfl lB.out
  have h7 := Lib.hid (h6.out.go hxb)
  have hx := Lib.hid hx
  clear hr hr1 hxb h6
  have hr1 := Lib.hid (Read_calls w11 t (kn6 A) T3 h7.out.one.dk ((1 : Nat) : Int) (show 2 ≤ 16384 by omega) (by simp [kn6]))
  go_wp2_with fail
  refine hr1.out.mono ?_
  intro e w12 hr
  obtain ⟨yA, yc, rfl, hy, hyb⟩ := hr.ok rfl lA.out
  have hxR := Lib.hid (Rd.of_own (hx.out.still hyb))
  have hyR := Lib.hid (Rd.of_own hy)
  have hBW := Lib.hid (h7.out.go hyb).one.below
  clear hr hr1 hyb h7 hx hy
  rw [show lastP (kn6 B) 1 = B from rfl] at hxR
  rw [show lastP (kn6 A) 1 = A from rfl] at hyR
  go_wp2_with fail
  refine wp_mixs (fun W => Below w12.heap.size w12 W) [5, 6, 7, 14, 15, 16] (by kernel_rfl) (by kernel_rfl) (by kernel_rfl) (by decide) ((Below.refl _ _).drew) ?_
  iterate 3 ((first | refine mixsq rfl rfl 0 (by decide +kernel) ?_ (fun w' hw' => Or.inl ?_) (fun K hK => ?_) | refine mixsq rfl rfl 1 (by decide +kernel) ?_ (fun w' hw' => Or.inl ?_) (fun K hK => ?_) | refine mixsq rfl rfl 2 (by decide +kernel) ?_ (fun w' hw' => Or.inl ?_) (fun K hK => ?_) | refine mixsq rfl rfl 3 (by decide +kernel) ?_ (fun w' hw' => Or.inl ?_) (fun K hK => ?_) | refine mixsq rfl rfl 4 (by decide +kernel) ?_ (fun w' hw' => Or.inl ?_) (fun K hK => ?_) | refine mixsq rfl rfl 5 (by decide +kernel) ?_ (fun w' hw' => Or.inl ?_) (fun K hK => ?_) | refine mixsq rfl rfl 6 (by decide +kernel) ?_ (fun w' hw' => Or.inl ?_) (fun K hK => ?_)); rotate_left; (focus (go_simp; rfl)); go_simp; refine hK _ ?_; clear hK K)
  (first | refine mixsq_yes rfl (by first | rfl | kernel_rfl) 0 (by decide +kernel) ?_ (fun w' hw' => Or.inl ?_) (fun K hK => ?_) | refine mixsq_yes rfl (by first | rfl | kernel_rfl) 1 (by decide +kernel) ?_ (fun w' hw' => Or.inl ?_) (fun K hK => ?_) | refine mixsq_yes rfl (by first | rfl | kernel_rfl) 2 (by decide +kernel) ?_ (fun w' hw' => Or.inl ?_) (fun K hK => ?_) | refine mixsq_yes rfl (by first | rfl | kernel_rfl) 3 (by decide +kernel) ?_ (fun w' hw' => Or.inl ?_) (fun K hK => ?_) | refine mixsq_yes rfl (by first | rfl | kernel_rfl) 4 (by decide +kernel) ?_ (fun w' hw' => Or.inl ?_) (fun K hK => ?_) | refine mixsq_yes rfl (by first | rfl | kernel_rfl) 5 (by decide +kernel) ?_ (fun w' hw' => Or.inl ?_) (fun K hK => ?_) | refine mixsq_yes rfl (by first | rfl | kernel_rfl) 6 (by decide +kernel) ?_ (fun w' hw' => Or.inl ?_) (fun K hK => ?_)); rotate_left; (focus (go_simp; rfl)); go_simp; refine hK _ ?_; clear hK K
  (first | refine mixsq_yes rfl (by first | rfl | kernel_rfl) 0 (by decide +kernel) ?_ (fun w' hw' => Or.inl ?_) (fun K hK => ?_) | refine mixsq_yes rfl (by first | rfl | kernel_rfl) 1 (by decide +kernel) ?_ (fun w' hw' => Or.inl ?_) (fun K hK => ?_) | refine mixsq_yes rfl (by first | rfl | kernel_rfl) 2 (by decide +kernel) ?_ (fun w' hw' => Or.inl ?_) (fun K hK => ?_) | refine mixsq_yes rfl (by first | rfl | kernel_rfl) 3 (by decide +kernel) ?_ (fun w' hw' => Or.inl ?_) (fun K hK => ?_) | refine mixsq_yes rfl (by first | rfl | kernel_rfl) 4 (by decide +kernel) ?_ (fun w' hw' => Or.inl ?_) (fun K hK => ?_) | refine mixsq_yes rfl (by first | rfl | kernel_rfl) 5 (by decide +kernel) ?_ (fun w' hw' => Or.inl ?_) (fun K hK => ?_) | refine mixsq_yes rfl (by first | rfl | kernel_rfl) 6 (by decide +kernel) ?_ (fun w' hw' => Or.inl ?_) (fun K hK => ?_)); rotate_left; (focus (have hb : Below w12.heap.size w12 w' := hw'; have s1 := run_str (P := Try.prog) w' 22 9 5 _ _ Try.underlying22 Try.underlying5 Try.underlying9 (hxR.out.below hb); unfold str at s1; go_simp; rfl)); go_simp; refine hK _ ?_; clear hK K
  refine mixsl_yes rfl (by first | rfl | kernel_rfl) (fun K hK => ?_)
  go_simp
  have b5 : Below w12.heap.size w12 (w12.drew.alloc (.cells #[.int .u8 98] 5)) := ((Below.refl w12.heap.size w12).drew).alloc (Nat.le_refl _) _
  refine hK (fun W => Below w12.heap.size w12 W) _ _ (fun _ => ⟨b5, fun _ => b5⟩) ?_
  clear hK K
  refine mixsl_yes rfl (by first | rfl | kernel_rfl) (fun K hK => ?_)
  have hcv1 : Sem.run Try.prog (convert 22 22 (.slice (some ⟨w12.heap.size, 0, none⟩) 1 1)) (w12.alloc (.cells #[.int .u8 98] 5)).drew = .ok (.slice (some ⟨w12.heap.size, 0, none⟩) 1 1) (w12.drew.alloc (.cells #[.int .u8 98] 5 (1, 2))) := hcv w12.drew #[.int .u8 98]
  go_simp
  have b6 : Below w12.heap.size w12 (w12.drew.alloc (.cells #[.int .u8 98] 5 (1, 2))) := ((Below.refl w12.heap.size w12).drew).alloc (Nat.le_refl _) _
  refine hK (fun W => Below w12.heap.size w12 W) _ _ (fun _ => ⟨b6, ext_all (fun _ => b6) b6⟩) ?_
  clear hK K
  refine mixsl_yes rfl (by first | rfl | kernel_rfl) (fun K hK => ?_)
  go_simp
  refine (FullM w12.drew 98 (1, 2)).mono ?_
  rintro e w13 ⟨fA, fc, rfl, hfo, hfb⟩
  have b7 : Below w12.heap.size w12 w13 := ⟨hfb.os, hfb.tape, hfb.output, hfb.size, hfb.block⟩
  have r7 := Rd.of_own hfo
  rw [← hBq.out] at r7
  refine hK (fun W => Below w12.heap.size w12 W ∧ Rd W (.slice fA 512 fc) (bvs B)) _ _ (fun _ => ⟨⟨b7, r7⟩, ext_all (ext_all (fun _ => b7) b7) b7⟩) ?_
  clear hK K
  (refine mixsq_yes rfl (by first | rfl | kernel_rfl) 3 (by decide +kernel) ?_ (fun w' hw' => Or.inl ?_) (fun K hK => ?_)); rotate_left; (focus (have hb : Below w12.heap.size w12 w' ∧ Rd w' (.slice fA 512 fc) (bvs B) := hw'; have s1 := run_str (P := Try.prog) w' 22 9 5 _ _ Try.underlying22 Try.underlying5 Try.underlying9 hb.2; unfold str at s1; go_simp; rfl)); go_simp; refine hK _ ?_; clear hK K
  (first | refine mixsq_yes rfl (by first | rfl | kernel_rfl) 0 (by decide +kernel) ?_ (fun w' hw' => Or.inl ?_) (fun K hK => ?_) | refine mixsq_yes rfl (by first | rfl | kernel_rfl) 1 (by decide +kernel) ?_ (fun w' hw' => Or.inl ?_) (fun K hK => ?_) | refine mixsq_yes rfl (by first | rfl | kernel_rfl) 2 (by decide +kernel) ?_ (fun w' hw' => Or.inl ?_) (fun K hK => ?_) | refine mixsq_yes rfl (by first | rfl | kernel_rfl) 3 (by decide +kernel) ?_ (fun w' hw' => Or.inl ?_) (fun K hK => ?_) | refine mixsq_yes rfl (by first | rfl | kernel_rfl) 4 (by decide +kernel) ?_ (fun w' hw' => Or.inl ?_) (fun K hK => ?_) | refine mixsq_yes rfl (by first | rfl | kernel_rfl) 5 (by decide +kernel) ?_ (fun w' hw' => Or.inl ?_) (fun K hK => ?_) | refine mixsq_yes rfl (by first | rfl | kernel_rfl) 6 (by decide +kernel) ?_ (fun w' hw' => Or.inl ?_) (fun K hK => ?_)); rotate_left; (focus (go_simp; rfl)); go_simp; refine hK _ ?_; clear hK K
  (first | refine mixsq rfl rfl 0 (by decide +kernel) ?_ (fun w' hw' => Or.inl ?_) (fun K hK => ?_) | refine mixsq rfl rfl 1 (by decide +kernel) ?_ (fun w' hw' => Or.inl ?_) (fun K hK => ?_) | refine mixsq rfl rfl 2 (by decide +kernel) ?_ (fun w' hw' => Or.inl ?_) (fun K hK => ?_) | refine mixsq rfl rfl 3 (by decide +kernel) ?_ (fun w' hw' => Or.inl ?_) (fun K hK => ?_) | refine mixsq rfl rfl 4 (by decide +kernel) ?_ (fun w' hw' => Or.inl ?_) (fun K hK => ?_) | refine mixsq rfl rfl 5 (by decide +kernel) ?_ (fun w' hw' => Or.inl ?_) (fun K hK => ?_) | refine mixsq rfl rfl 6 (by decide +kernel) ?_ (fun w' hw' => Or.inl ?_) (fun K hK => ?_)); rotate_left; (focus (go_simp; rfl)); go_simp; refine hK _ ?_; clear hK K
  (first | refine mixsq rfl rfl 0 (by decide +kernel) ?_ (fun w' hw' => Or.inl ?_) (fun K hK => ?_) | refine mixsq rfl rfl 1 (by decide +kernel) ?_ (fun w' hw' => Or.inl ?_) (fun K hK => ?_) | refine mixsq rfl rfl 2 (by decide +kernel) ?_ (fun w' hw' => Or.inl ?_) (fun K hK => ?_) | refine mixsq rfl rfl 3 (by decide +kernel) ?_ (fun w' hw' => Or.inl ?_) (fun K hK => ?_) | refine mixsq rfl rfl 4 (by decide +kernel) ?_ (fun w' hw' => Or.inl ?_) (fun K hK => ?_) | refine mixsq rfl rfl 5 (by decide +kernel) ?_ (fun w' hw' => Or.inl ?_) (fun K hK => ?_) | refine mixsq rfl rfl 6 (by decide +kernel) ?_ (fun w' hw' => Or.inl ?_) (fun K hK => ?_)); rotate_left; (focus (go_simp; rfl)); go_simp; refine hK _ ?_; clear hK K
  (first | refine mixsq_yes rfl (by first | rfl | kernel_rfl) 0 (by decide +kernel) ?_ (fun w' hw' => Or.inl ?_) (fun K hK => ?_) | refine mixsq_yes rfl (by first | rfl | kernel_rfl) 1 (by decide +kernel) ?_ (fun w' hw' => Or.inl ?_) (fun K hK => ?_) | refine mixsq_yes rfl (by first | rfl | kernel_rfl) 2 (by decide +kernel) ?_ (fun w' hw' => Or.inl ?_) (fun K hK => ?_) | refine mixsq_yes rfl (by first | rfl | kernel_rfl) 3 (by decide +kernel) ?_ (fun w' hw' => Or.inl ?_) (fun K hK => ?_) | refine mixsq_yes rfl (by first | rfl | kernel_rfl) 4 (by decide +kernel) ?_ (fun w' hw' => Or.inl ?_) (fun K hK => ?_) | refine mixsq_yes rfl (by first | rfl | kernel_rfl) 5 (by decide +kernel) ?_ (fun w' hw' => Or.inl ?_) (fun K hK => ?_) | refine mixsq_yes rfl (by first | rfl | kernel_rfl) 6 (by decide +kernel) ?_ (fun w' hw' => Or.inl ?_) (fun K hK => ?_)); rotate_left; (focus (go_simp; rfl)); go_simp; refine hK _ ?_; clear hK K
  (refine mixsq_yes rfl (by first | rfl | kernel_rfl) 3 (by decide +kernel) ?_ (fun w' hw' => Or.inl ?_) (fun K hK => ?_)); rotate_left; (focus (have hb0 : Below w12.heap.size w12 w' ∧ Rd w' (.slice fA 512 fc) (bvs B) := hw'; have hb := hb0.1; have s1 := run_str (P := Try.prog) w' 22 9 5 _ _ Try.underlying22 Try.underlying5 Try.underlying9 (hyR.out.below hb); unfold str at s1; go_simp; rfl)); go_simp; refine hK _ ?_; clear hK K
  refine mixsl_yes rfl (by first | rfl | kernel_rfl) (fun K hK => ?_)
  go_simp
  have c5 : Below w12.heap.size w12 (w13.alloc (.cells #[.int .u8 97] 5)) := b7.alloc b7.size _
  have c5r : Rd (w13.alloc (.cells #[.int .u8 97] 5)) (.slice fA 512 fc) (bvs B) := r7.alloc _
  refine hK (fun W => Below w12.heap.size w12 W) _ _ (fun _ => ⟨c5, ext_all (ext_all (ext_all (fun _ => c5) c5) c5) ⟨c5, c5r⟩⟩) ?_
  clear hK K
  refine mixsl_yes rfl (by first | rfl | kernel_rfl) (fun K hK => ?_)
  have hcv2 : Sem.run Try.prog (convert 22 22 (.slice (some ⟨w13.heap.size, 0, none⟩) 1 1)) (w13.alloc (.cells #[.int .u8 97] 5)) = .ok (.slice (some ⟨w13.heap.size, 0, none⟩) 1 1) (w13.alloc (.cells #[.int .u8 97] 5 (1, 2))) := hcv w13 #[.int .u8 97]
  go_simp
  have c6 : Below w12.heap.size w12 (w13.alloc (.cells #[.int .u8 97] 5 (1, 2))) := b7.alloc b7.size _
  have c6r : Rd (w13.alloc (.cells #[.int .u8 97] 5 (1, 2))) (.slice fA 512 fc) (bvs B) := r7.alloc _
  refine hK (fun W => Below w12.heap.size w12 W) _ _ (fun _ => ⟨c6, ext_all (ext_all (ext_all (ext_all (fun _ => c6) c6) c6) ⟨c6, c6r⟩) c6⟩) ?_
  clear hK K
  refine mixsl_yes rfl (by first | rfl | kernel_rfl) (fun K hK => ?_)
  go_simp
  refine (FullM w13 97 (1, 2)).mono ?_
  rintro e w14 ⟨gA, gc, rfl, hgo, hgb⟩
  have d7 : Below w12.heap.size w12 w14 := b7.trans (hgb.mono b7.size)
  have s7 := Rd.of_own hgo
  rw [← hA.out] at s7
  have d7r : Rd w14 (.slice fA 512 fc) (bvs B) := r7.below hgb
  refine hK (fun W => Below w12.heap.size w12 W ∧ Rd W (.slice gA 512 gc) (bvs A)) _ _ (fun _ => ⟨⟨d7, s7⟩, ext_all (ext_all (ext_all (ext_all (ext_all (fun _ => d7) d7) d7) ⟨d7, d7r⟩) d7) d7⟩) ?_
  clear hK K
  (refine mixsq_yes rfl (by first | rfl | kernel_rfl) 6 (by decide +kernel) ?_ (fun w' hw' => Or.inl ?_) (fun K hK => ?_)); rotate_left; (focus (have hb : Below w12.heap.size w12 w' ∧ Rd w' (.slice gA 512 gc) (bvs A) := hw'; have s1 := run_str (P := Try.prog) w' 22 9 5 _ _ Try.underlying22 Try.underlying5 Try.underlying9 hb.2; unfold str at s1; go_simp; rfl)); go_simp; refine hK _ ?_; clear hK K
  (first | refine mixsq_yes rfl (by first | rfl | kernel_rfl) 0 (by decide +kernel) ?_ (fun w' hw' => Or.inl ?_) (fun K hK => ?_) | refine mixsq_yes rfl (by first | rfl | kernel_rfl) 1 (by decide +kernel) ?_ (fun w' hw' => Or.inl ?_) (fun K hK => ?_) | refine mixsq_yes rfl (by first | rfl | kernel_rfl) 2 (by decide +kernel) ?_ (fun w' hw' => Or.inl ?_) (fun K hK => ?_) | refine mixsq_yes rfl (by first | rfl | kernel_rfl) 3 (by decide +kernel) ?_ (fun w' hw' => Or.inl ?_) (fun K hK => ?_) | refine mixsq_yes rfl (by first | rfl | kernel_rfl) 4 (by decide +kernel) ?_ (fun w' hw' => Or.inl ?_) (fun K hK => ?_) | refine mixsq_yes rfl (by first | rfl | kernel_rfl) 5 (by decide +kernel) ?_ (fun w' hw' => Or.inl ?_) (fun K hK => ?_) | refine mixsq_yes rfl (by first | rfl | kernel_rfl) 6 (by decide +kernel) ?_ (fun w' hw' => Or.inl ?_) (fun K hK => ?_)); rotate_left; (focus (go_simp; rfl)); go_simp; refine hK _ ?_; clear hK K
  (first | refine mixsq rfl rfl 0 (by decide +kernel) ?_ (fun w' hw' => Or.inl ?_) (fun K hK => ?_) | refine mixsq rfl rfl 1 (by decide +kernel) ?_ (fun w' hw' => Or.inl ?_) (fun K hK => ?_) | refine mixsq rfl rfl 2 (by decide +kernel) ?_ (fun w' hw' => Or.inl ?_) (fun K hK => ?_) | refine mixsq rfl rfl 3 (by decide +kernel) ?_ (fun w' hw' => Or.inl ?_) (fun K hK => ?_) | refine mixsq rfl rfl 4 (by decide +kernel) ?_ (fun w' hw' => Or.inl ?_) (fun K hK => ?_) | refine mixsq rfl rfl 5 (by decide +kernel) ?_ (fun w' hw' => Or.inl ?_) (fun K hK => ?_) | refine mixsq rfl rfl 6 (by decide +kernel) ?_ (fun w' hw' => Or.inl ?_) (fun K hK => ?_)); rotate_left; (focus (go_simp; rfl)); go_simp; refine hK _ ?_; clear hK K
  (first | refine mixsq rfl rfl 0 (by decide +kernel) ?_ (fun w' hw' => Or.inl ?_) (fun K hK => ?_) | refine mixsq rfl rfl 1 (by decide +kernel) ?_ (fun w' hw' => Or.inl ?_) (fun K hK => ?_) | refine mixsq rfl rfl 2 (by decide +kernel) ?_ (fun w' hw' => Or.inl ?_) (fun K hK => ?_) | refine mixsq rfl rfl 3 (by decide +kernel) ?_ (fun w' hw' => Or.inl ?_) (fun K hK => ?_) | refine mixsq rfl rfl 4 (by decide +kernel) ?_ (fun w' hw' => Or.inl ?_) (fun K hK => ?_) | refine mixsq rfl rfl 5 (by decide +kernel) ?_ (fun w' hw' => Or.inl ?_) (fun K hK => ?_) | refine mixsq rfl rfl 6 (by decide +kernel) ?_ (fun w' hw' => Or.inl ?_) (fun K hK => ?_)); rotate_left; (focus (go_simp; rfl)); go_simp; refine hK _ ?_; clear hK K
  refine mixs_nil ?_
  have hBe := hBW.out.trans (d7.mono hBW.out.size)
  go_wp2
  go_ret
  exact ⟨rfl, hBe⟩
end Go.Proofs.Ytjldjfipacagdaa
