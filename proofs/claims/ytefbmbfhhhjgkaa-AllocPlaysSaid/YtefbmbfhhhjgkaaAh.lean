/- Pools: at, Give, Has. Printed by genag.py. Pools: Give, Has. Printed by genah.py. -/
import Derived.Test.YtefbmbfhhhjgkaaAf
namespace Go.Proofs.Ytefbmbfhhhjgkaa
open Go.RowKit
def AtBad (w : World) (e : Ending) (w' : World) : Prop := e = .returned (.tuple #[.int .i64 0, .slice none 0 0, .int .i64 0, .int .i64 1]) ∧ Below w.heap.size w w'
set_option linter.unusedVariables false in
set_option maxRecDepth 100000 in
set_option maxHeartbeats 8000000 in
theorem at_bad (w : World) {gt : Nat} {m f n b nn : Int} (hm : I64 m) (hf : I64 f) (hn : I64 n) (hnn : I64 nn) (hb : 0 ≤ b ∧ b ≤ 100000)
    (hblk : ∀ W, Below w.heap.size w W → Calls Try.prog 68 #[.pointer (some ⟨gt, 0, none⟩)] W (Ans W (.int .i64 b))) (hr : rightP m f n b = false) : Calls Try.prog 39 #[.agg #[.int .i64 m, .int .i64 f, .int .i64 n], .pointer (some ⟨gt, 0, none⟩), .int .i64 nn] w (AtBad w) := by
  have hR := Lib.hid (fun W => Right_calls W m f n b hm hf hn hb)
  rw [hr] at hR
  clear hr
  have hblkh := Lib.hid hblk
  have hld := Lib.hid (fun (W : World) (h : Blk W w.heap.size 29 #[.int .i64 m, .int .i64 f, .int .i64 n]) => load_pool h)
  obtain ⟨w1, hw1⟩ : ∃ w1, w.alloc (.cells #[.int .i64 m, .int .i64 f, .int .i64 n] 29) = w1 := ⟨_, rfl⟩
  have hB1 : Hid (Below w.heap.size w w1) := by rw [← hw1]; exact Lib.hid ((Below.refl _ _).alloc (Nat.le_refl _) _)
  have hbk : Hid (Blk w1 w.heap.size 29 #[.int .i64 m, .int .i64 f, .int .i64 n]) := by rw [← hw1]; exact Lib.hid (Blk.new _ _ _)
  clear hblk hm hf hn
  go_enter Try.func39, Try.ntmps39
  go_wp2_with fail
  refine wp_mixs (fun W => Blk W w.heap.size 29 #[.int .i64 m, .int .i64 f, .int .i64 n]) [2, 3] (by kernel_rfl) (by kernel_rfl) (by kernel_rfl) (by decide) (show Blk w1.drew _ _ _ from hbk.out) ?_
  (refine mixsq rfl rfl 0 (by decide +kernel) (.agg #[.int .i64 m, .int .i64 f, .int .i64 n]) (fun w' hw' => Or.inl (exec_load rfl rfl (hld.out w' hw'))) (fun K hK => ?_)); go_simp; refine hK _ ?_; clear hK K
  (first | refine mixsq rfl rfl 0 (by decide +kernel) ?_ (fun w' hw' => Or.inl ?_) (fun K hK => ?_) | refine mixsq rfl rfl 1 (by decide +kernel) ?_ (fun w' hw' => Or.inl ?_) (fun K hK => ?_) | refine mixsq rfl rfl 2 (by decide +kernel) ?_ (fun w' hw' => Or.inl ?_) (fun K hK => ?_) | refine mixsq rfl rfl 3 (by decide +kernel) ?_ (fun w' hw' => Or.inl ?_) (fun K hK => ?_) | refine mixsq rfl rfl 4 (by decide +kernel) ?_ (fun w' hw' => Or.inl ?_) (fun K hK => ?_) | refine mixsq rfl rfl 5 (by decide +kernel) ?_ (fun w' hw' => Or.inl ?_) (fun K hK => ?_) | refine mixsq rfl rfl 6 (by decide +kernel) ?_ (fun w' hw' => Or.inl ?_) (fun K hK => ?_) | refine mixsq rfl rfl 7 (by decide +kernel) ?_ (fun w' hw' => Or.inl ?_) (fun K hK => ?_)); rotate_left; (focus (go_simp; rfl)); go_simp; refine hK _ ?_; clear hK K
  refine mixsl rfl rfl (fun K hK => ?_)
  go_simp
  refine (hblkh.out w1.drew hB1.out.drew).mono ?_
  rintro e w2 ⟨rfl, rfl⟩
  have hbk2 : Blk w1.drew w.heap.size 29 #[.int .i64 m, .int .i64 f, .int .i64 n] := hbk.out
  refine hK (fun W => Blk W w.heap.size 29 #[.int .i64 m, .int .i64 f, .int .i64 n]) _ _ (fun _ => ⟨hbk2, fun _ => hbk2⟩) ?_
  clear hK K
  refine mixsl rfl rfl (fun K hK => ?_)
  go_simp
  refine (hR.out w1.drew).mono ?_
  rintro e w2 ⟨rfl, hb2⟩
  have hbk3 : Blk w2 w.heap.size 29 #[.int .i64 m, .int .i64 f, .int .i64 n] := (hb2.block _ hbk.out.lt).trans hbk.out
  have hB2 : Hid (Below w.heap.size w w2) := Lib.hid (hB1.out.drew.trans (hb2.mono hB1.out.size))
  refine hK (fun W => Blk W w.heap.size 29 #[.int .i64 m, .int .i64 f, .int .i64 n]) _ _ (fun _ => ⟨hbk3, ext_all (fun _ => hbk3) hbk3⟩) ?_
  clear hK K hbk2
  iterate 2 ((first | refine mixsq rfl rfl 0 (by decide +kernel) ?_ (fun w' hw' => Or.inl ?_) (fun K hK => ?_) | refine mixsq rfl rfl 1 (by decide +kernel) ?_ (fun w' hw' => Or.inl ?_) (fun K hK => ?_) | refine mixsq rfl rfl 2 (by decide +kernel) ?_ (fun w' hw' => Or.inl ?_) (fun K hK => ?_) | refine mixsq rfl rfl 3 (by decide +kernel) ?_ (fun w' hw' => Or.inl ?_) (fun K hK => ?_) | refine mixsq rfl rfl 4 (by decide +kernel) ?_ (fun w' hw' => Or.inl ?_) (fun K hK => ?_) | refine mixsq rfl rfl 5 (by decide +kernel) ?_ (fun w' hw' => Or.inl ?_) (fun K hK => ?_) | refine mixsq rfl rfl 6 (by decide +kernel) ?_ (fun w' hw' => Or.inl ?_) (fun K hK => ?_) | refine mixsq rfl rfl 7 (by decide +kernel) ?_ (fun w' hw' => Or.inl ?_) (fun K hK => ?_)); rotate_left; (focus (go_simp; rfl)); go_simp; refine hK _ ?_; clear hK K)
  iterate 4 (refine mixsq_no rfl (by first | rfl | kernel_rfl) (fun K hK => ?_); go_simp; refine hK _ ?_; clear hK K)
  iterate 2 ((first | refine mixsq rfl rfl 0 (by decide +kernel) ?_ (fun w' hw' => Or.inl ?_) (fun K hK => ?_) | refine mixsq rfl rfl 1 (by decide +kernel) ?_ (fun w' hw' => Or.inl ?_) (fun K hK => ?_) | refine mixsq rfl rfl 2 (by decide +kernel) ?_ (fun w' hw' => Or.inl ?_) (fun K hK => ?_) | refine mixsq rfl rfl 3 (by decide +kernel) ?_ (fun w' hw' => Or.inl ?_) (fun K hK => ?_) | refine mixsq rfl rfl 4 (by decide +kernel) ?_ (fun w' hw' => Or.inl ?_) (fun K hK => ?_) | refine mixsq rfl rfl 5 (by decide +kernel) ?_ (fun w' hw' => Or.inl ?_) (fun K hK => ?_) | refine mixsq rfl rfl 6 (by decide +kernel) ?_ (fun w' hw' => Or.inl ?_) (fun K hK => ?_) | refine mixsq rfl rfl 7 (by decide +kernel) ?_ (fun w' hw' => Or.inl ?_) (fun K hK => ?_)); rotate_left; (focus (go_simp; rfl)); go_simp; refine hK _ ?_; clear hK K)
  iterate 7 (refine mixsq_no rfl (by first | rfl | kernel_rfl) (fun K hK => ?_); go_simp; refine hK _ ?_; clear hK K)
  (first | refine mixsq rfl rfl 0 (by decide +kernel) ?_ (fun w' hw' => Or.inl ?_) (fun K hK => ?_) | refine mixsq rfl rfl 1 (by decide +kernel) ?_ (fun w' hw' => Or.inl ?_) (fun K hK => ?_) | refine mixsq rfl rfl 2 (by decide +kernel) ?_ (fun w' hw' => Or.inl ?_) (fun K hK => ?_) | refine mixsq rfl rfl 3 (by decide +kernel) ?_ (fun w' hw' => Or.inl ?_) (fun K hK => ?_) | refine mixsq rfl rfl 4 (by decide +kernel) ?_ (fun w' hw' => Or.inl ?_) (fun K hK => ?_) | refine mixsq rfl rfl 5 (by decide +kernel) ?_ (fun w' hw' => Or.inl ?_) (fun K hK => ?_) | refine mixsq rfl rfl 6 (by decide +kernel) ?_ (fun w' hw' => Or.inl ?_) (fun K hK => ?_) | refine mixsq rfl rfl 7 (by decide +kernel) ?_ (fun w' hw' => Or.inl ?_) (fun K hK => ?_)); rotate_left; (focus (go_simp; rfl)); go_simp; refine hK _ ?_; clear hK K
  refine mixs_nil ?_
  clear hb2 hbk hw1 hbk3
  go_wp2
  refine bodyPost_ret (v := .tuple #[.int .i64 0, .slice none 0 0, .int .i64 0, .int .i64 1]) (by simp [results, Try.results39, go_sem]) rfl ?_
  exact ⟨rfl, hB2.out⟩
set_option linter.unusedVariables false in
set_option maxRecDepth 100000 in
set_option maxHeartbeats 8000000 in
theorem at_low (w : World) {gt : Nat} {m f n b nn : Int} (hm : I64 m) (hf : I64 f) (hn : I64 n) (hnn : I64 nn) (hb : 0 ≤ b ∧ b ≤ 100000)
    (hblk : ∀ W, Below w.heap.size w W → Calls Try.prog 68 #[.pointer (some ⟨gt, 0, none⟩)] W (Ans W (.int .i64 b))) (hr : rightP m f n b = true) (hlow : nn < f) : Calls Try.prog 39 #[.agg #[.int .i64 m, .int .i64 f, .int .i64 n], .pointer (some ⟨gt, 0, none⟩), .int .i64 nn] w (AtBad w) := by
  have hR := Lib.hid (fun W => Right_calls W m f n b hm hf hn hb)
  rw [hr] at hR
  clear hr
  have hlow1 : decide (nn < f) = true := decide_eq_true hlow
  have hblkh := Lib.hid hblk
  have hld := Lib.hid (fun (W : World) (h : Blk W w.heap.size 29 #[.int .i64 m, .int .i64 f, .int .i64 n]) => load_pool h)
  obtain ⟨w1, hw1⟩ : ∃ w1, w.alloc (.cells #[.int .i64 m, .int .i64 f, .int .i64 n] 29) = w1 := ⟨_, rfl⟩
  have hB1 : Hid (Below w.heap.size w w1) := by rw [← hw1]; exact Lib.hid ((Below.refl _ _).alloc (Nat.le_refl _) _)
  have hbk : Hid (Blk w1 w.heap.size 29 #[.int .i64 m, .int .i64 f, .int .i64 n]) := by rw [← hw1]; exact Lib.hid (Blk.new _ _ _)
  clear hblk hm hf hn
  go_enter Try.func39, Try.ntmps39
  go_wp2_with fail
  refine wp_mixs (fun W => Blk W w.heap.size 29 #[.int .i64 m, .int .i64 f, .int .i64 n]) [2, 3] (by kernel_rfl) (by kernel_rfl) (by kernel_rfl) (by decide) (show Blk w1.drew _ _ _ from hbk.out) ?_
  (refine mixsq rfl rfl 0 (by decide +kernel) (.agg #[.int .i64 m, .int .i64 f, .int .i64 n]) (fun w' hw' => Or.inl (exec_load rfl rfl (hld.out w' hw'))) (fun K hK => ?_)); go_simp; refine hK _ ?_; clear hK K
  (first | refine mixsq rfl rfl 0 (by decide +kernel) ?_ (fun w' hw' => Or.inl ?_) (fun K hK => ?_) | refine mixsq rfl rfl 1 (by decide +kernel) ?_ (fun w' hw' => Or.inl ?_) (fun K hK => ?_) | refine mixsq rfl rfl 2 (by decide +kernel) ?_ (fun w' hw' => Or.inl ?_) (fun K hK => ?_) | refine mixsq rfl rfl 3 (by decide +kernel) ?_ (fun w' hw' => Or.inl ?_) (fun K hK => ?_) | refine mixsq rfl rfl 4 (by decide +kernel) ?_ (fun w' hw' => Or.inl ?_) (fun K hK => ?_) | refine mixsq rfl rfl 5 (by decide +kernel) ?_ (fun w' hw' => Or.inl ?_) (fun K hK => ?_) | refine mixsq rfl rfl 6 (by decide +kernel) ?_ (fun w' hw' => Or.inl ?_) (fun K hK => ?_) | refine mixsq rfl rfl 7 (by decide +kernel) ?_ (fun w' hw' => Or.inl ?_) (fun K hK => ?_)); rotate_left; (focus (go_simp; rfl)); go_simp; refine hK _ ?_; clear hK K
  refine mixsl rfl rfl (fun K hK => ?_)
  go_simp
  refine (hblkh.out w1.drew hB1.out.drew).mono ?_
  rintro e w2 ⟨rfl, rfl⟩
  have hbk2 : Blk w1.drew w.heap.size 29 #[.int .i64 m, .int .i64 f, .int .i64 n] := hbk.out
  refine hK (fun W => Blk W w.heap.size 29 #[.int .i64 m, .int .i64 f, .int .i64 n]) _ _ (fun _ => ⟨hbk2, fun _ => hbk2⟩) ?_
  clear hK K
  refine mixsl rfl rfl (fun K hK => ?_)
  go_simp
  refine (hR.out w1.drew).mono ?_
  rintro e w2 ⟨rfl, hb2⟩
  have hbk3 : Blk w2 w.heap.size 29 #[.int .i64 m, .int .i64 f, .int .i64 n] := (hb2.block _ hbk.out.lt).trans hbk.out
  have hB2 : Hid (Below w.heap.size w w2) := Lib.hid (hB1.out.drew.trans (hb2.mono hB1.out.size))
  refine hK (fun W => Blk W w.heap.size 29 #[.int .i64 m, .int .i64 f, .int .i64 n]) _ _ (fun _ => ⟨hbk3, ext_all (fun _ => hbk3) hbk3⟩) ?_
  clear hK K hbk2
  iterate 2 ((first | refine mixsq rfl rfl 0 (by decide +kernel) ?_ (fun w' hw' => Or.inl ?_) (fun K hK => ?_) | refine mixsq rfl rfl 1 (by decide +kernel) ?_ (fun w' hw' => Or.inl ?_) (fun K hK => ?_) | refine mixsq rfl rfl 2 (by decide +kernel) ?_ (fun w' hw' => Or.inl ?_) (fun K hK => ?_) | refine mixsq rfl rfl 3 (by decide +kernel) ?_ (fun w' hw' => Or.inl ?_) (fun K hK => ?_) | refine mixsq rfl rfl 4 (by decide +kernel) ?_ (fun w' hw' => Or.inl ?_) (fun K hK => ?_) | refine mixsq rfl rfl 5 (by decide +kernel) ?_ (fun w' hw' => Or.inl ?_) (fun K hK => ?_) | refine mixsq rfl rfl 6 (by decide +kernel) ?_ (fun w' hw' => Or.inl ?_) (fun K hK => ?_) | refine mixsq rfl rfl 7 (by decide +kernel) ?_ (fun w' hw' => Or.inl ?_) (fun K hK => ?_)); rotate_left; (focus (go_simp; rfl)); go_simp; refine hK _ ?_; clear hK K)
  iterate 4 ((first | refine mixsq_yes rfl (by first | rfl | kernel_rfl) 0 (by decide +kernel) ?_ (fun w' hw' => Or.inl ?_) (fun K hK => ?_) | refine mixsq_yes rfl (by first | rfl | kernel_rfl) 1 (by decide +kernel) ?_ (fun w' hw' => Or.inl ?_) (fun K hK => ?_) | refine mixsq_yes rfl (by first | rfl | kernel_rfl) 2 (by decide +kernel) ?_ (fun w' hw' => Or.inl ?_) (fun K hK => ?_) | refine mixsq_yes rfl (by first | rfl | kernel_rfl) 3 (by decide +kernel) ?_ (fun w' hw' => Or.inl ?_) (fun K hK => ?_) | refine mixsq_yes rfl (by first | rfl | kernel_rfl) 4 (by decide +kernel) ?_ (fun w' hw' => Or.inl ?_) (fun K hK => ?_) | refine mixsq_yes rfl (by first | rfl | kernel_rfl) 5 (by decide +kernel) ?_ (fun w' hw' => Or.inl ?_) (fun K hK => ?_) | refine mixsq_yes rfl (by first | rfl | kernel_rfl) 6 (by decide +kernel) ?_ (fun w' hw' => Or.inl ?_) (fun K hK => ?_) | refine mixsq_yes rfl (by first | rfl | kernel_rfl) 7 (by decide +kernel) ?_ (fun w' hw' => Or.inl ?_) (fun K hK => ?_)); rotate_left; (focus (have hc : Blk w' w.heap.size 29 #[.int .i64 m, .int .i64 f, .int .i64 n] := hw'; have c0 := hc.cell 0; have c1 := hc.cell 1; have c2 := hc.cell 2; go_simp; rfl)); go_simp; refine hK _ ?_; clear hK K)
  iterate 2 ((first | refine mixsq rfl rfl 0 (by decide +kernel) ?_ (fun w' hw' => Or.inl ?_) (fun K hK => ?_) | refine mixsq rfl rfl 1 (by decide +kernel) ?_ (fun w' hw' => Or.inl ?_) (fun K hK => ?_) | refine mixsq rfl rfl 2 (by decide +kernel) ?_ (fun w' hw' => Or.inl ?_) (fun K hK => ?_) | refine mixsq rfl rfl 3 (by decide +kernel) ?_ (fun w' hw' => Or.inl ?_) (fun K hK => ?_) | refine mixsq rfl rfl 4 (by decide +kernel) ?_ (fun w' hw' => Or.inl ?_) (fun K hK => ?_) | refine mixsq rfl rfl 5 (by decide +kernel) ?_ (fun w' hw' => Or.inl ?_) (fun K hK => ?_) | refine mixsq rfl rfl 6 (by decide +kernel) ?_ (fun w' hw' => Or.inl ?_) (fun K hK => ?_) | refine mixsq rfl rfl 7 (by decide +kernel) ?_ (fun w' hw' => Or.inl ?_) (fun K hK => ?_)); rotate_left; (focus (go_simp; rfl)); go_simp; refine hK _ ?_; clear hK K)
  iterate 7 (refine mixsq_no rfl (by first | rfl | kernel_rfl) (fun K hK => ?_); go_simp; refine hK _ ?_; clear hK K)
  (first | refine mixsq rfl rfl 0 (by decide +kernel) ?_ (fun w' hw' => Or.inl ?_) (fun K hK => ?_) | refine mixsq rfl rfl 1 (by decide +kernel) ?_ (fun w' hw' => Or.inl ?_) (fun K hK => ?_) | refine mixsq rfl rfl 2 (by decide +kernel) ?_ (fun w' hw' => Or.inl ?_) (fun K hK => ?_) | refine mixsq rfl rfl 3 (by decide +kernel) ?_ (fun w' hw' => Or.inl ?_) (fun K hK => ?_) | refine mixsq rfl rfl 4 (by decide +kernel) ?_ (fun w' hw' => Or.inl ?_) (fun K hK => ?_) | refine mixsq rfl rfl 5 (by decide +kernel) ?_ (fun w' hw' => Or.inl ?_) (fun K hK => ?_) | refine mixsq rfl rfl 6 (by decide +kernel) ?_ (fun w' hw' => Or.inl ?_) (fun K hK => ?_) | refine mixsq rfl rfl 7 (by decide +kernel) ?_ (fun w' hw' => Or.inl ?_) (fun K hK => ?_)); rotate_left; (focus (go_simp; rfl)); go_simp; refine hK _ ?_; clear hK K
  refine mixs_nil ?_
  clear hb2 hbk hw1 hbk3
  go_wp2
  refine bodyPost_ret (v := .tuple #[.int .i64 0, .slice none 0 0, .int .i64 0, .int .i64 1]) (by simp [results, Try.results39, go_sem]) rfl ?_
  exact ⟨rfl, hB2.out⟩
set_option linter.unusedVariables false in
set_option maxRecDepth 100000 in
set_option maxHeartbeats 8000000 in
theorem at_high (w : World) {gt : Nat} {m f n b nn : Int} (hm : I64 m) (hf : I64 f) (hn : I64 n) (hnn : I64 nn) (hb : 0 ≤ b ∧ b ≤ 100000)
    (hblk : ∀ W, Below w.heap.size w W → Calls Try.prog 68 #[.pointer (some ⟨gt, 0, none⟩)] W (Ans W (.int .i64 b))) (hr : rightP m f n b = true) (hlow : ¬ nn < f) (hf0 : 0 ≤ f) (hhigh : n ≤ nn - f) : Calls Try.prog 39 #[.agg #[.int .i64 m, .int .i64 f, .int .i64 n], .pointer (some ⟨gt, 0, none⟩), .int .i64 nn] w (AtBad w) := by
  have hR := Lib.hid (fun W => Right_calls W m f n b hm hf hn hb)
  rw [hr] at hR
  clear hr
  have hlow1 : decide (nn < f) = false := decide_eq_false hlow
  have hwr : IntKind.i64.wrap (nn - f) = nn - f := by have := hnn; unfold I64 at this; rw [IntKind.wrap_i64]; omega
  have hh1 : decide (n ≤ nn - f) = true := decide_eq_true hhigh
  have hblkh := Lib.hid hblk
  have hld := Lib.hid (fun (W : World) (h : Blk W w.heap.size 29 #[.int .i64 m, .int .i64 f, .int .i64 n]) => load_pool h)
  obtain ⟨w1, hw1⟩ : ∃ w1, w.alloc (.cells #[.int .i64 m, .int .i64 f, .int .i64 n] 29) = w1 := ⟨_, rfl⟩
  have hB1 : Hid (Below w.heap.size w w1) := by rw [← hw1]; exact Lib.hid ((Below.refl _ _).alloc (Nat.le_refl _) _)
  have hbk : Hid (Blk w1 w.heap.size 29 #[.int .i64 m, .int .i64 f, .int .i64 n]) := by rw [← hw1]; exact Lib.hid (Blk.new _ _ _)
  clear hblk hm hf hn
  go_enter Try.func39, Try.ntmps39
  go_wp2_with fail
  refine wp_mixs (fun W => Blk W w.heap.size 29 #[.int .i64 m, .int .i64 f, .int .i64 n]) [2, 3] (by kernel_rfl) (by kernel_rfl) (by kernel_rfl) (by decide) (show Blk w1.drew _ _ _ from hbk.out) ?_
  (refine mixsq rfl rfl 0 (by decide +kernel) (.agg #[.int .i64 m, .int .i64 f, .int .i64 n]) (fun w' hw' => Or.inl (exec_load rfl rfl (hld.out w' hw'))) (fun K hK => ?_)); go_simp; refine hK _ ?_; clear hK K
  (first | refine mixsq rfl rfl 0 (by decide +kernel) ?_ (fun w' hw' => Or.inl ?_) (fun K hK => ?_) | refine mixsq rfl rfl 1 (by decide +kernel) ?_ (fun w' hw' => Or.inl ?_) (fun K hK => ?_) | refine mixsq rfl rfl 2 (by decide +kernel) ?_ (fun w' hw' => Or.inl ?_) (fun K hK => ?_) | refine mixsq rfl rfl 3 (by decide +kernel) ?_ (fun w' hw' => Or.inl ?_) (fun K hK => ?_) | refine mixsq rfl rfl 4 (by decide +kernel) ?_ (fun w' hw' => Or.inl ?_) (fun K hK => ?_) | refine mixsq rfl rfl 5 (by decide +kernel) ?_ (fun w' hw' => Or.inl ?_) (fun K hK => ?_) | refine mixsq rfl rfl 6 (by decide +kernel) ?_ (fun w' hw' => Or.inl ?_) (fun K hK => ?_) | refine mixsq rfl rfl 7 (by decide +kernel) ?_ (fun w' hw' => Or.inl ?_) (fun K hK => ?_)); rotate_left; (focus (go_simp; rfl)); go_simp; refine hK _ ?_; clear hK K
  refine mixsl rfl rfl (fun K hK => ?_)
  go_simp
  refine (hblkh.out w1.drew hB1.out.drew).mono ?_
  rintro e w2 ⟨rfl, rfl⟩
  have hbk2 : Blk w1.drew w.heap.size 29 #[.int .i64 m, .int .i64 f, .int .i64 n] := hbk.out
  refine hK (fun W => Blk W w.heap.size 29 #[.int .i64 m, .int .i64 f, .int .i64 n]) _ _ (fun _ => ⟨hbk2, fun _ => hbk2⟩) ?_
  clear hK K
  refine mixsl rfl rfl (fun K hK => ?_)
  go_simp
  refine (hR.out w1.drew).mono ?_
  rintro e w2 ⟨rfl, hb2⟩
  have hbk3 : Blk w2 w.heap.size 29 #[.int .i64 m, .int .i64 f, .int .i64 n] := (hb2.block _ hbk.out.lt).trans hbk.out
  have hB2 : Hid (Below w.heap.size w w2) := Lib.hid (hB1.out.drew.trans (hb2.mono hB1.out.size))
  refine hK (fun W => Blk W w.heap.size 29 #[.int .i64 m, .int .i64 f, .int .i64 n]) _ _ (fun _ => ⟨hbk3, ext_all (fun _ => hbk3) hbk3⟩) ?_
  clear hK K hbk2
  iterate 2 ((first | refine mixsq rfl rfl 0 (by decide +kernel) ?_ (fun w' hw' => Or.inl ?_) (fun K hK => ?_) | refine mixsq rfl rfl 1 (by decide +kernel) ?_ (fun w' hw' => Or.inl ?_) (fun K hK => ?_) | refine mixsq rfl rfl 2 (by decide +kernel) ?_ (fun w' hw' => Or.inl ?_) (fun K hK => ?_) | refine mixsq rfl rfl 3 (by decide +kernel) ?_ (fun w' hw' => Or.inl ?_) (fun K hK => ?_) | refine mixsq rfl rfl 4 (by decide +kernel) ?_ (fun w' hw' => Or.inl ?_) (fun K hK => ?_) | refine mixsq rfl rfl 5 (by decide +kernel) ?_ (fun w' hw' => Or.inl ?_) (fun K hK => ?_) | refine mixsq rfl rfl 6 (by decide +kernel) ?_ (fun w' hw' => Or.inl ?_) (fun K hK => ?_) | refine mixsq rfl rfl 7 (by decide +kernel) ?_ (fun w' hw' => Or.inl ?_) (fun K hK => ?_)); rotate_left; (focus (go_simp; rfl)); go_simp; refine hK _ ?_; clear hK K)
  iterate 4 ((first | refine mixsq_yes rfl (by first | rfl | kernel_rfl) 0 (by decide +kernel) ?_ (fun w' hw' => Or.inl ?_) (fun K hK => ?_) | refine mixsq_yes rfl (by first | rfl | kernel_rfl) 1 (by decide +kernel) ?_ (fun w' hw' => Or.inl ?_) (fun K hK => ?_) | refine mixsq_yes rfl (by first | rfl | kernel_rfl) 2 (by decide +kernel) ?_ (fun w' hw' => Or.inl ?_) (fun K hK => ?_) | refine mixsq_yes rfl (by first | rfl | kernel_rfl) 3 (by decide +kernel) ?_ (fun w' hw' => Or.inl ?_) (fun K hK => ?_) | refine mixsq_yes rfl (by first | rfl | kernel_rfl) 4 (by decide +kernel) ?_ (fun w' hw' => Or.inl ?_) (fun K hK => ?_) | refine mixsq_yes rfl (by first | rfl | kernel_rfl) 5 (by decide +kernel) ?_ (fun w' hw' => Or.inl ?_) (fun K hK => ?_) | refine mixsq_yes rfl (by first | rfl | kernel_rfl) 6 (by decide +kernel) ?_ (fun w' hw' => Or.inl ?_) (fun K hK => ?_) | refine mixsq_yes rfl (by first | rfl | kernel_rfl) 7 (by decide +kernel) ?_ (fun w' hw' => Or.inl ?_) (fun K hK => ?_)); rotate_left; (focus (have hc : Blk w' w.heap.size 29 #[.int .i64 m, .int .i64 f, .int .i64 n] := hw'; have c0 := hc.cell 0; have c1 := hc.cell 1; have c2 := hc.cell 2; go_simp; rfl)); go_simp; refine hK _ ?_; clear hK K)
  iterate 2 ((first | refine mixsq rfl rfl 0 (by decide +kernel) ?_ (fun w' hw' => Or.inl ?_) (fun K hK => ?_) | refine mixsq rfl rfl 1 (by decide +kernel) ?_ (fun w' hw' => Or.inl ?_) (fun K hK => ?_) | refine mixsq rfl rfl 2 (by decide +kernel) ?_ (fun w' hw' => Or.inl ?_) (fun K hK => ?_) | refine mixsq rfl rfl 3 (by decide +kernel) ?_ (fun w' hw' => Or.inl ?_) (fun K hK => ?_) | refine mixsq rfl rfl 4 (by decide +kernel) ?_ (fun w' hw' => Or.inl ?_) (fun K hK => ?_) | refine mixsq rfl rfl 5 (by decide +kernel) ?_ (fun w' hw' => Or.inl ?_) (fun K hK => ?_) | refine mixsq rfl rfl 6 (by decide +kernel) ?_ (fun w' hw' => Or.inl ?_) (fun K hK => ?_) | refine mixsq rfl rfl 7 (by decide +kernel) ?_ (fun w' hw' => Or.inl ?_) (fun K hK => ?_)); rotate_left; (focus (go_simp; rfl)); go_simp; refine hK _ ?_; clear hK K)
  iterate 7 ((first | refine mixsq_yes rfl (by first | rfl | kernel_rfl) 0 (by decide +kernel) ?_ (fun w' hw' => Or.inl ?_) (fun K hK => ?_) | refine mixsq_yes rfl (by first | rfl | kernel_rfl) 1 (by decide +kernel) ?_ (fun w' hw' => Or.inl ?_) (fun K hK => ?_) | refine mixsq_yes rfl (by first | rfl | kernel_rfl) 2 (by decide +kernel) ?_ (fun w' hw' => Or.inl ?_) (fun K hK => ?_) | refine mixsq_yes rfl (by first | rfl | kernel_rfl) 3 (by decide +kernel) ?_ (fun w' hw' => Or.inl ?_) (fun K hK => ?_) | refine mixsq_yes rfl (by first | rfl | kernel_rfl) 4 (by decide +kernel) ?_ (fun w' hw' => Or.inl ?_) (fun K hK => ?_) | refine mixsq_yes rfl (by first | rfl | kernel_rfl) 5 (by decide +kernel) ?_ (fun w' hw' => Or.inl ?_) (fun K hK => ?_) | refine mixsq_yes rfl (by first | rfl | kernel_rfl) 6 (by decide +kernel) ?_ (fun w' hw' => Or.inl ?_) (fun K hK => ?_) | refine mixsq_yes rfl (by first | rfl | kernel_rfl) 7 (by decide +kernel) ?_ (fun w' hw' => Or.inl ?_) (fun K hK => ?_)); rotate_left; (focus (have hc : Blk w' w.heap.size 29 #[.int .i64 m, .int .i64 f, .int .i64 n] := hw'; have c0 := hc.cell 0; have c1 := hc.cell 1; have c2 := hc.cell 2; go_simp; rfl)); go_simp; refine hK _ ?_; clear hK K)
  (first | refine mixsq rfl rfl 0 (by decide +kernel) ?_ (fun w' hw' => Or.inl ?_) (fun K hK => ?_) | refine mixsq rfl rfl 1 (by decide +kernel) ?_ (fun w' hw' => Or.inl ?_) (fun K hK => ?_) | refine mixsq rfl rfl 2 (by decide +kernel) ?_ (fun w' hw' => Or.inl ?_) (fun K hK => ?_) | refine mixsq rfl rfl 3 (by decide +kernel) ?_ (fun w' hw' => Or.inl ?_) (fun K hK => ?_) | refine mixsq rfl rfl 4 (by decide +kernel) ?_ (fun w' hw' => Or.inl ?_) (fun K hK => ?_) | refine mixsq rfl rfl 5 (by decide +kernel) ?_ (fun w' hw' => Or.inl ?_) (fun K hK => ?_) | refine mixsq rfl rfl 6 (by decide +kernel) ?_ (fun w' hw' => Or.inl ?_) (fun K hK => ?_) | refine mixsq rfl rfl 7 (by decide +kernel) ?_ (fun w' hw' => Or.inl ?_) (fun K hK => ?_)); rotate_left; (focus (go_simp; rfl)); go_simp; refine hK _ ?_; clear hK K
  refine mixs_nil ?_
  clear hb2 hbk hw1 hbk3
  go_wp2
  refine bodyPost_ret (v := .tuple #[.int .i64 0, .slice none 0 0, .int .i64 0, .int .i64 1]) (by simp [results, Try.results39, go_sem]) rfl ?_
  exact ⟨rfl, hB2.out⟩
set_option maxRecDepth 100000 in
set_option maxHeartbeats 8000000 in
theorem at_good {W0 w : World} {gl g gt N : Nat} {x : Lk} {V : Nat → List UInt8} {t : Tk} {X : Nat → Prop} (h : LT W0 w gl g gt N x V t X) (hN : 65 < N ∧ N ≤ 16000) (ho : t.ov = false) {mm n' j : Nat} {f : Int} (hp : PoolOk (N - 65) mm f n') (hj : j < n') :
    Calls Try.prog 39 #[.agg #[.int .i64 (mm : Int), .int .i64 f, .int .i64 (n' : Int)], .pointer (some ⟨gt, 0, none⟩), .int .i64 (f + (j : Int))] w fun e w' => ∃ bx cx, e = .returned (.tuple #[.int .i64 ((mm + j / 4096 : Nat) : Int), .slice (some ⟨bx, 0, none⟩) 512 cx, .int .i64 ((j % 4096 : Nat) : Int), .int .i64 0]) ∧ Own8 w' (.slice (some ⟨bx, 0, none⟩) 512 cx) (tvw x V t (mm + j / 4096)) ∧ Below w.heap.size w w' ∧ w.heap.size ≤ bx := by
  obtain ⟨hr, hmp⟩ := hp.right (by omega)
  obtain ⟨⟨f1, f2⟩, ⟨n1, n2⟩, m1⟩ := hp
  have hm : I64 (mm : Int) := ⟨by omega, by omega⟩
  have hf : I64 f := ⟨by omega, by omega⟩
  have hn : I64 (n' : Int) := ⟨by omega, by omega⟩
  have hblk : ∀ W, Below w.heap.size w W → Calls Try.prog 68 #[.pointer (some ⟨gt, 0, none⟩)] W (Ans W (.int .i64 ((N - 65 : Nat) : Int))) := fun W hb => by
    have hL := h.below hb
    obtain ⟨S, F, ST, FT, g1, g2, _⟩ := hL.ex
    exact TBlocks_calls W g1 g2 (by rw [hL.la.vw.dl]; omega) (by omega)
  have hR := Lib.hid (fun W => Right_calls W (mm : Int) f (n' : Int) ((N - 65 : Nat) : Int) hm hf hn (by omega))
  rw [hr] at hR
  obtain ⟨nn, hnn⟩ : ∃ nn, f + (j : Int) = nn := ⟨_, rfl⟩
  obtain ⟨m, hme⟩ : ∃ m, (mm : Int) = m := ⟨_, rfl⟩
  obtain ⟨n, hne⟩ : ∃ n, (n' : Int) = n := ⟨_, rfl⟩
  rw [hme, hne] at hR
  rw [hnn, hme, hne]
  have hlow1 : decide (nn < f) = false := decide_eq_false (by omega)
  have hnf : nn - f = (j : Int) := by omega
  have hwr : IntKind.i64.wrap (j : Int) = (j : Int) := by rw [IntKind.wrap_i64]; omega
  have hh1 : decide (n ≤ (j : Int)) = false := decide_eq_false (by omega)
  have hRd := fun (W : World) (hb : Below w.heap.size w W) => by
    have := cTRead (h.below hb) hN ((mm + j / 4096 : Nat) : Int) (by omega) (by omega)
    rw [treadP_tvw h.la hN.1 ho (by omega)] at this
    exact this
  have hl5 := Lib.hid (tvw_len h.la h.tk (n := mm + j / 4096) (by omega))
  have eadd : ((mm + j / 4096 : Nat) : Int) = m + (j : Int) / 4096 := by omega
  have emod : ((j % 4096 : Nat) : Int) = (j : Int) % 4096 := by omega
  rw [eadd] at hRd
  rw [eadd, emod]
  have hRd := Lib.hid hRd
  have hmb : 0 ≤ m ∧ m ≤ 16000 := by omega
  have hjb : (j : Int) ≤ 16384 := by omega
  have hblkh := Lib.hid hblk
  have hld := Lib.hid (fun (W : World) (h : Blk W w.heap.size 29 #[.int .i64 m, .int .i64 f, .int .i64 n]) => load_pool h)
  obtain ⟨w1, hw1⟩ : ∃ w1, w.alloc (.cells #[.int .i64 m, .int .i64 f, .int .i64 n] 29) = w1 := ⟨_, rfl⟩
  have hB1 : Hid (Below w.heap.size w w1) := by rw [← hw1]; exact Lib.hid ((Below.refl _ _).alloc (Nat.le_refl _) _)
  have hbk : Hid (Blk w1 w.heap.size 29 #[.int .i64 m, .int .i64 f, .int .i64 n]) := by rw [← hw1]; exact Lib.hid (Blk.new _ _ _)
  have q0 : w1.cell? ⟨w.heap.size, 0, none⟩ = some (.int .i64 m) := hbk.out.cell 0
  clear h hblk hm hf hn hr hmp m1 eadd emod hme hne
  go_enter Try.func39, Try.ntmps39
  go_wp2_with fail
  refine wp_mixs (fun W => Blk W w.heap.size 29 #[.int .i64 m, .int .i64 f, .int .i64 n]) [2, 3] (by kernel_rfl) (by kernel_rfl) (by kernel_rfl) (by decide) (show Blk w1.drew _ _ _ from hbk.out) ?_
  (refine mixsq rfl rfl 0 (by decide +kernel) (.agg #[.int .i64 m, .int .i64 f, .int .i64 n]) (fun w' hw' => Or.inl (exec_load rfl rfl (hld.out w' hw'))) (fun K hK => ?_)); go_simp; refine hK _ ?_; clear hK K
  (first | refine mixsq rfl rfl 0 (by decide +kernel) ?_ (fun w' hw' => Or.inl ?_) (fun K hK => ?_) | refine mixsq rfl rfl 1 (by decide +kernel) ?_ (fun w' hw' => Or.inl ?_) (fun K hK => ?_) | refine mixsq rfl rfl 2 (by decide +kernel) ?_ (fun w' hw' => Or.inl ?_) (fun K hK => ?_) | refine mixsq rfl rfl 3 (by decide +kernel) ?_ (fun w' hw' => Or.inl ?_) (fun K hK => ?_) | refine mixsq rfl rfl 4 (by decide +kernel) ?_ (fun w' hw' => Or.inl ?_) (fun K hK => ?_) | refine mixsq rfl rfl 5 (by decide +kernel) ?_ (fun w' hw' => Or.inl ?_) (fun K hK => ?_) | refine mixsq rfl rfl 6 (by decide +kernel) ?_ (fun w' hw' => Or.inl ?_) (fun K hK => ?_) | refine mixsq rfl rfl 7 (by decide +kernel) ?_ (fun w' hw' => Or.inl ?_) (fun K hK => ?_)); rotate_left; (focus (go_simp; rfl)); go_simp; refine hK _ ?_; clear hK K
  refine mixsl rfl rfl (fun K hK => ?_)
  go_simp
  refine (hblkh.out w1.drew hB1.out.drew).mono ?_
  rintro e w2 ⟨rfl, rfl⟩
  have hbk2 : Blk w1.drew w.heap.size 29 #[.int .i64 m, .int .i64 f, .int .i64 n] := hbk.out
  refine hK (fun W => Blk W w.heap.size 29 #[.int .i64 m, .int .i64 f, .int .i64 n]) _ _ (fun _ => ⟨hbk2, fun _ => hbk2⟩) ?_
  clear hK K
  refine mixsl rfl rfl (fun K hK => ?_)
  go_simp
  refine (hR.out w1.drew).mono ?_
  rintro e w2 ⟨rfl, hb2⟩
  have hbk3 : Blk w2 w.heap.size 29 #[.int .i64 m, .int .i64 f, .int .i64 n] := (hb2.block _ hbk.out.lt).trans hbk.out
  have hB2 : Hid (Below w.heap.size w w2) := Lib.hid (hB1.out.drew.trans (hb2.mono hB1.out.size))
  refine hK (fun W => Blk W w.heap.size 29 #[.int .i64 m, .int .i64 f, .int .i64 n]) _ _ (fun _ => ⟨hbk3, ext_all (fun _ => hbk3) hbk3⟩) ?_
  clear hK K hbk2
  iterate 2 ((first | refine mixsq rfl rfl 0 (by decide +kernel) ?_ (fun w' hw' => Or.inl ?_) (fun K hK => ?_) | refine mixsq rfl rfl 1 (by decide +kernel) ?_ (fun w' hw' => Or.inl ?_) (fun K hK => ?_) | refine mixsq rfl rfl 2 (by decide +kernel) ?_ (fun w' hw' => Or.inl ?_) (fun K hK => ?_) | refine mixsq rfl rfl 3 (by decide +kernel) ?_ (fun w' hw' => Or.inl ?_) (fun K hK => ?_) | refine mixsq rfl rfl 4 (by decide +kernel) ?_ (fun w' hw' => Or.inl ?_) (fun K hK => ?_) | refine mixsq rfl rfl 5 (by decide +kernel) ?_ (fun w' hw' => Or.inl ?_) (fun K hK => ?_) | refine mixsq rfl rfl 6 (by decide +kernel) ?_ (fun w' hw' => Or.inl ?_) (fun K hK => ?_) | refine mixsq rfl rfl 7 (by decide +kernel) ?_ (fun w' hw' => Or.inl ?_) (fun K hK => ?_)); rotate_left; (focus (go_simp; rfl)); go_simp; refine hK _ ?_; clear hK K)
  iterate 4 ((first | refine mixsq_yes rfl (by first | rfl | kernel_rfl) 0 (by decide +kernel) ?_ (fun w' hw' => Or.inl ?_) (fun K hK => ?_) | refine mixsq_yes rfl (by first | rfl | kernel_rfl) 1 (by decide +kernel) ?_ (fun w' hw' => Or.inl ?_) (fun K hK => ?_) | refine mixsq_yes rfl (by first | rfl | kernel_rfl) 2 (by decide +kernel) ?_ (fun w' hw' => Or.inl ?_) (fun K hK => ?_) | refine mixsq_yes rfl (by first | rfl | kernel_rfl) 3 (by decide +kernel) ?_ (fun w' hw' => Or.inl ?_) (fun K hK => ?_) | refine mixsq_yes rfl (by first | rfl | kernel_rfl) 4 (by decide +kernel) ?_ (fun w' hw' => Or.inl ?_) (fun K hK => ?_) | refine mixsq_yes rfl (by first | rfl | kernel_rfl) 5 (by decide +kernel) ?_ (fun w' hw' => Or.inl ?_) (fun K hK => ?_) | refine mixsq_yes rfl (by first | rfl | kernel_rfl) 6 (by decide +kernel) ?_ (fun w' hw' => Or.inl ?_) (fun K hK => ?_) | refine mixsq_yes rfl (by first | rfl | kernel_rfl) 7 (by decide +kernel) ?_ (fun w' hw' => Or.inl ?_) (fun K hK => ?_)); rotate_left; (focus (have hc : Blk w' w.heap.size 29 #[.int .i64 m, .int .i64 f, .int .i64 n] := hw'; have c0 := hc.cell 0; have c1 := hc.cell 1; have c2 := hc.cell 2; go_simp; rfl)); go_simp; refine hK _ ?_; clear hK K)
  iterate 2 ((first | refine mixsq rfl rfl 0 (by decide +kernel) ?_ (fun w' hw' => Or.inl ?_) (fun K hK => ?_) | refine mixsq rfl rfl 1 (by decide +kernel) ?_ (fun w' hw' => Or.inl ?_) (fun K hK => ?_) | refine mixsq rfl rfl 2 (by decide +kernel) ?_ (fun w' hw' => Or.inl ?_) (fun K hK => ?_) | refine mixsq rfl rfl 3 (by decide +kernel) ?_ (fun w' hw' => Or.inl ?_) (fun K hK => ?_) | refine mixsq rfl rfl 4 (by decide +kernel) ?_ (fun w' hw' => Or.inl ?_) (fun K hK => ?_) | refine mixsq rfl rfl 5 (by decide +kernel) ?_ (fun w' hw' => Or.inl ?_) (fun K hK => ?_) | refine mixsq rfl rfl 6 (by decide +kernel) ?_ (fun w' hw' => Or.inl ?_) (fun K hK => ?_) | refine mixsq rfl rfl 7 (by decide +kernel) ?_ (fun w' hw' => Or.inl ?_) (fun K hK => ?_)); rotate_left; (focus (go_simp; rfl)); go_simp; refine hK _ ?_; clear hK K)
  iterate 7 ((first | refine mixsq_yes rfl (by first | rfl | kernel_rfl) 0 (by decide +kernel) ?_ (fun w' hw' => Or.inl ?_) (fun K hK => ?_) | refine mixsq_yes rfl (by first | rfl | kernel_rfl) 1 (by decide +kernel) ?_ (fun w' hw' => Or.inl ?_) (fun K hK => ?_) | refine mixsq_yes rfl (by first | rfl | kernel_rfl) 2 (by decide +kernel) ?_ (fun w' hw' => Or.inl ?_) (fun K hK => ?_) | refine mixsq_yes rfl (by first | rfl | kernel_rfl) 3 (by decide +kernel) ?_ (fun w' hw' => Or.inl ?_) (fun K hK => ?_) | refine mixsq_yes rfl (by first | rfl | kernel_rfl) 4 (by decide +kernel) ?_ (fun w' hw' => Or.inl ?_) (fun K hK => ?_) | refine mixsq_yes rfl (by first | rfl | kernel_rfl) 5 (by decide +kernel) ?_ (fun w' hw' => Or.inl ?_) (fun K hK => ?_) | refine mixsq_yes rfl (by first | rfl | kernel_rfl) 6 (by decide +kernel) ?_ (fun w' hw' => Or.inl ?_) (fun K hK => ?_) | refine mixsq_yes rfl (by first | rfl | kernel_rfl) 7 (by decide +kernel) ?_ (fun w' hw' => Or.inl ?_) (fun K hK => ?_)); rotate_left; (focus (have hc : Blk w' w.heap.size 29 #[.int .i64 m, .int .i64 f, .int .i64 n] := hw'; have c0 := hc.cell 0; have c1 := hc.cell 1; have c2 := hc.cell 2; go_simp; rfl)); go_simp; refine hK _ ?_; clear hK K)
  (first | refine mixsq rfl rfl 0 (by decide +kernel) ?_ (fun w' hw' => Or.inl ?_) (fun K hK => ?_) | refine mixsq rfl rfl 1 (by decide +kernel) ?_ (fun w' hw' => Or.inl ?_) (fun K hK => ?_) | refine mixsq rfl rfl 2 (by decide +kernel) ?_ (fun w' hw' => Or.inl ?_) (fun K hK => ?_) | refine mixsq rfl rfl 3 (by decide +kernel) ?_ (fun w' hw' => Or.inl ?_) (fun K hK => ?_) | refine mixsq rfl rfl 4 (by decide +kernel) ?_ (fun w' hw' => Or.inl ?_) (fun K hK => ?_) | refine mixsq rfl rfl 5 (by decide +kernel) ?_ (fun w' hw' => Or.inl ?_) (fun K hK => ?_) | refine mixsq rfl rfl 6 (by decide +kernel) ?_ (fun w' hw' => Or.inl ?_) (fun K hK => ?_) | refine mixsq rfl rfl 7 (by decide +kernel) ?_ (fun w' hw' => Or.inl ?_) (fun K hK => ?_)); rotate_left; (focus (go_simp; rfl)); go_simp; refine hK _ ?_; clear hK K
  refine mixs_nil ?_
  have q0 : w2.cell? ⟨w.heap.size, 0, none⟩ = some (.int .i64 m) := hbk3.cell 0
  have q1 : w2.cell? ⟨w.heap.size, 1, none⟩ = some (.int .i64 f) := hbk3.cell 1
  have hb2h := Lib.hid hB2.out
  have hRd2 := Lib.hid (hRd.out w2 hB2.out)
  clear hb2 hbk hw1 hbk3 hRd hR hblkh hld hnn
  go_wp2_with fail
  refine hRd2.out.mono ?_
  intro e w4 hrd
  obtain ⟨bx, cx, rfl, hx, hxb, hx1, hx2⟩ := hrd.ok rfl hl5.out
  have hBe := Lib.hid (hB2.out.trans (hxb.mono hB2.out.size))
  have hx := Lib.hid hx
  have hbx : Hid (w.heap.size ≤ bx) := Lib.hid (by have := hB2.out.size; omega)
  clear hrd hxb hx1 hx2 hRd2
  go_wp2
  refine bodyPost_ret (v := .tuple #[.int .i64 (m + (j : Int) / 4096), .slice (some ⟨bx, 0, none⟩) 512 cx, .int .i64 ((j : Int) % 4096), .int .i64 0]) (by simp [results, Try.results39, go_sem]) rfl ?_
  exact ⟨bx, cx, rfl, hx.out, hBe.out, hbx.out⟩
end Go.Proofs.Ytefbmbfhhhjgkaa
namespace Go.Proofs.Ytefbmbfhhhjgkaa
open Go.RowKit
set_option maxRecDepth 10000 in
set_option maxHeartbeats 4000000 in
theorem give_bad (w : World) {gt : Nat} {m f n nn : Int} (hat : ∀ W, Below w.heap.size w W → Calls Try.prog 39 #[.agg #[.int .i64 m, .int .i64 f, .int .i64 n], .pointer (some ⟨gt, 0, none⟩), .int .i64 nn] W (AtBad W)) : Calls Try.prog 11 #[.agg #[.int .i64 m, .int .i64 f, .int .i64 n], .pointer (some ⟨gt, 0, none⟩), .int .i64 nn] w fun e w' => e = .returned (.int .i64 1) ∧ Below w.heap.size w w' := by
  obtain ⟨w1, hw1⟩ : ∃ w1, w.alloc (.cells #[.int .i64 m, .int .i64 f, .int .i64 n] 29) = w1 := ⟨_, rfl⟩
  have hB1 : Hid (Below w.heap.size w w1) := by rw [← hw1]; exact Lib.hid ((Below.refl _ _).alloc (Nat.le_refl _) _)
  have hbk : Blk w1 w.heap.size 29 #[.int .i64 m, .int .i64 f, .int .i64 n] := by rw [← hw1]; exact Blk.new _ _ _
  have hld := load_pool hbk
  have hA := Lib.hid (hat w1 hB1.out)
  clear hat hbk
  go_enter Try.func11, Try.ntmps11
  go_wp2_with (with_reducible refine stop_load 29 ?_)
  refine Stop.mk (wpList_load_cells rfl rfl rfl hld ?_)
  clear hld
  clear hw1
  go_wp2_with fail
  refine hA.out.mono ?_
  rintro e w2 ⟨rfl, hb2⟩
  have hB2 := Lib.hid (hB1.out.trans (hb2.mono hB1.out.size))
  clear hb2 hA
  go_wp2
  go_ret
  exact ⟨rfl, hB2.out⟩
set_option maxRecDepth 10000 in
set_option maxHeartbeats 4000000 in
theorem has_bad (w : World) {gt : Nat} {m f n nn : Int} (hat : ∀ W, Below w.heap.size w W → Calls Try.prog 39 #[.agg #[.int .i64 m, .int .i64 f, .int .i64 n], .pointer (some ⟨gt, 0, none⟩), .int .i64 nn] W (AtBad W)) : Calls Try.prog 18 #[.agg #[.int .i64 m, .int .i64 f, .int .i64 n], .pointer (some ⟨gt, 0, none⟩), .int .i64 nn] w fun e w' => e = .returned (.tuple #[.bool false, .int .i64 1]) ∧ Below w.heap.size w w' := by
  obtain ⟨w1, hw1⟩ : ∃ w1, w.alloc (.cells #[.int .i64 m, .int .i64 f, .int .i64 n] 29) = w1 := ⟨_, rfl⟩
  have hB1 : Hid (Below w.heap.size w w1) := by rw [← hw1]; exact Lib.hid ((Below.refl _ _).alloc (Nat.le_refl _) _)
  have hbk : Blk w1 w.heap.size 29 #[.int .i64 m, .int .i64 f, .int .i64 n] := by rw [← hw1]; exact Blk.new _ _ _
  have hld := load_pool hbk
  have hA := Lib.hid (hat w1 hB1.out)
  clear hat hbk
  go_enter Try.func18, Try.ntmps18
  go_wp2_with (with_reducible refine stop_load 29 ?_)
  refine Stop.mk (wpList_load_cells rfl rfl rfl hld ?_)
  clear hld
  clear hw1
  go_wp2_with fail
  refine hA.out.mono ?_
  rintro e w2 ⟨rfl, hb2⟩
  have hB2 := Lib.hid (hB1.out.trans (hb2.mono hB1.out.size))
  clear hb2 hA
  go_wp2
  go_ret2
  exact ⟨rfl, hB2.out⟩
/-- What Give leaves, of number j of the pool. -/
def GiveTo (W0 w : World) (gl g gt N : Nat) (x : Lk) (V : Nat → List UInt8) (t : Tk) (X : Nat → Prop) (m : Nat) (T : Nat → Bool) (j : Nat) (e : Ending) (w' : World) : Prop :=
  (T j = true ∧ e = .returned (.int .i64 0) ∧ LT W0 w' gl g gt N x V (tput t (m + j / 4096) (turn (tvw x V t (m + j / 4096)) (j % 4096))) X ∧ KeepX X w w') ∨
  (T j = false ∧ e = .returned (.int .i64 1) ∧ LT W0 w' gl g gt N x V t X ∧ KeepX X w w')
set_option maxRecDepth 100000 in
set_option maxHeartbeats 8000000 in
theorem Give_calls {W0 w : World} {gl g gt N : Nat} {x : Lk} {V : Nat → List UInt8} {t : Tk} {X : Nat → Prop} (h : LT W0 w gl g gt N x V t X) (hN : 65 < N ∧ N ≤ 16000) (ho : t.ov = false) {m n j : Nat} {f : Int} (hp : PoolOk (N - 65) m f n) {T : Nat → Bool} (hT : PB (tvw x V t) m n T) {bl : List Nat} (hs : TSub bl t) (hbl : bl.length ≤ 63) (hmb : ∀ k, k < (n - 1) / 4096 + 1 → m + k ∈ bl) (hj : j < n) :
    Calls Try.prog 11 #[.agg #[.int .i64 (m : Int), .int .i64 f, .int .i64 (n : Int)], .pointer (some ⟨gt, 0, none⟩), .int .i64 (f + (j : Int))] w (GiveTo W0 w gl g gt N x V t X m T j) := by
  obtain ⟨w1, hw1⟩ : ∃ w1, w.alloc (.cells #[.int .i64 (m : Int), .int .i64 f, .int .i64 (n : Int)] 29) = w1 := ⟨_, rfl⟩
  have hB1 : Hid (Below w.heap.size w w1) := by rw [← hw1]; exact Lib.hid ((Below.refl _ _).alloc (Nat.le_refl _) _)
  have hbk : Blk w1 w.heap.size 29 #[.int .i64 (m : Int), .int .i64 f, .int .i64 (n : Int)] := by rw [← hw1]; exact Blk.new _ _ _
  have hld := load_pool hbk
  have h1 := h.below hB1.out
  have hA := Lib.hid (at_good h1 hN ho hp hj)
  have hl5 := Lib.hid (tvw_len h.la h.tk (n := m + j / 4096) (by have := hp.m0; have := hp.n0; omega))
  have hbt := hT j hj
  have hwr := Lib.hid (tr_write (N := N) hs (hmb (j / 4096) (by have := hp.n0; omega)) hbl (by have := hp.m0; have := hp.n0; omega) ho (bs := turn (tvw x V t (m + j / 4096)) (j % 4096)) (by rw [turn_len]; exact hl5.out))
  have hh := Lib.hid h
  have hNh := Lib.hid hN
  have hmm : Hid (((m + j / 4096 : Nat) : Int) ≤ 100000) := Lib.hid (by have := hp.m0; have := hp.n0; omega)
  obtain ⟨bk, hbk2⟩ : ∃ bk, Hid (tvw x V t (m + j / 4096) = bk) := ⟨_, Lib.hid rfl⟩
  rw [hbk2.out] at hA hl5 hbt hwr
  obtain ⟨i, hi⟩ : ∃ i, Hid (j % 4096 = i) := ⟨_, Lib.hid rfl⟩
  rw [hi.out] at hA hbt hwr
  have hi4 : Hid (i < 4096) := Lib.hid (by rw [← hi.out]; omega)
  obtain ⟨k, hk⟩ : ∃ k, Hid (m + j / 4096 = k) := ⟨_, Lib.hid rfl⟩
  rw [hk.out] at hA hwr hmm
  clear h h1 hN hp hT hs hbl hmb hbk
  go_enter Try.func11, Try.ntmps11
  go_wp2_with (with_reducible refine stop_load 29 ?_)
  refine Stop.mk (wpList_load_cells rfl rfl rfl hld ?_)
  clear hld
  clear hw1
  go_wp2_with fail
  refine hA.out.mono ?_
  rintro e w2 ⟨bx, cx, rfl, hO, hb2, hbx⟩
  have hB2 := Lib.hid (hB1.out.trans (hb2.mono hB1.out.size))
  have hs1 := hB1.out.size
  have hC := clear_calls w2 (.slice (some ⟨bx, 0, none⟩) 512 cx) bk (i : Int) hO (by rw [hl5.out]; omega) (by omega) (by have := hi4.out; omega)
  rw [clearP_eq hl5.out hi4.out] at hC
  have hbxl : Hid (w.heap.size ≤ bx) := Lib.hid (by omega)
  cases hTj : T j with
  | false =>
    rw [hTj] at hbt
    rw [if_neg (by rw [hbt]; decide)] at hC
    have hC := Lib.hid hC
    clear hb2 hA hO
    go_wp2_with fail
    refine hC.out.mono ?_
    rintro e w3 ⟨rfl, _, hc3⟩
    have hB3 : Below w.heap.size w w3 := hB2.out.trans (hc3.below hB2.out.size (fun q hq => by have e : bx = q := Option.some.inj hq; have := hbxl.out; omega))
    have hfin : Hid (GiveTo W0 w gl g gt N x V t X m T j (.returned (.int .i64 1)) w3) := Lib.hid (.inr ⟨hTj, rfl, hh.out.below hB3, KeepX.of_below hB3 hh.out.xl⟩)
    clear hC hc3 hB3
    go_wp2
    go_ret
    exact hfin.out
  | true =>
    rw [hTj] at hbt
    rw [if_pos hbt] at hC
    have hC := Lib.hid hC
    clear hb2 hA hO
    go_wp2_with fail
    refine hC.out.mono ?_
    rintro e w3 ⟨rfl, hO3, hc3⟩
    have hB3 : Below w.heap.size w w3 := hB2.out.trans (hc3.below hB2.out.size (fun q hq => by have e : bx = q := Option.some.inj hq; have := hbxl.out; omega))
    have hW := cWrite (hh.out.below hB3) hNh.out (k : Int) (by omega) (by have := hmm.out; omega) _ (turn bk i) (Rd.of_own hO3) (by rw [turn_len, hl5.out]; omega)
    rw [hwr.out] at hW
    have hW := Lib.hid hW
    have hKb := Lib.hid (KeepX.of_below hB3 hh.out.xl)
    clear hC hc3 hB3 hO3
    go_wp2_with fail
    refine hW.out.mono ?_
    rintro e w4 ⟨rfl, hL4, hK4⟩
    have hfin : Hid (GiveTo W0 w gl g gt N x V t X m T j (.returned (.int .i64 0)) w4) := Lib.hid (.inl ⟨hTj, rfl, by rw [hbk2.out, hk.out, hi.out]; exact hL4, hKb.out.trans hK4⟩)
    clear hW hL4 hK4
    go_wp2
    go_ret
    exact hfin.out
set_option maxRecDepth 100000 in
set_option maxHeartbeats 8000000 in
theorem Has_calls {W0 w : World} {gl g gt N : Nat} {x : Lk} {V : Nat → List UInt8} {t : Tk} {X : Nat → Prop} (h : LT W0 w gl g gt N x V t X) (hN : 65 < N ∧ N ≤ 16000) (ho : t.ov = false) {m n j : Nat} {f : Int} (hp : PoolOk (N - 65) m f n) {T : Nat → Bool} (hT : PB (tvw x V t) m n T) (hj : j < n) :
    Calls Try.prog 18 #[.agg #[.int .i64 (m : Int), .int .i64 f, .int .i64 (n : Int)], .pointer (some ⟨gt, 0, none⟩), .int .i64 (f + (j : Int))] w fun e w' => e = .returned (.tuple #[.bool (T j), .int .i64 0]) ∧ Below w.heap.size w w' := by
  obtain ⟨w1, hw1⟩ : ∃ w1, w.alloc (.cells #[.int .i64 (m : Int), .int .i64 f, .int .i64 (n : Int)] 29) = w1 := ⟨_, rfl⟩
  have hB1 : Hid (Below w.heap.size w w1) := by rw [← hw1]; exact Lib.hid ((Below.refl _ _).alloc (Nat.le_refl _) _)
  have hbk : Blk w1 w.heap.size 29 #[.int .i64 (m : Int), .int .i64 f, .int .i64 (n : Int)] := by rw [← hw1]; exact Blk.new _ _ _
  have hld := load_pool hbk
  have h1 := h.below hB1.out
  have hA := Lib.hid (at_good h1 hN ho hp hj)
  have hl5 := Lib.hid (tvw_len h.la h.tk (n := m + j / 4096) (by have := hp.m0; have := hp.n0; omega))
  have hbt := hT j hj
  obtain ⟨bk, hbk2⟩ : ∃ bk, Hid (tvw x V t (m + j / 4096) = bk) := ⟨_, Lib.hid rfl⟩
  rw [hbk2.out] at hA hl5 hbt
  obtain ⟨i, hi⟩ : ∃ i, Hid (j % 4096 = i) := ⟨_, Lib.hid rfl⟩
  rw [hi.out] at hA hbt
  have hi4 : Hid (i < 4096) := Lib.hid (by rw [← hi.out]; omega)
  obtain ⟨k, hk⟩ : ∃ k, Hid (m + j / 4096 = k) := ⟨_, Lib.hid rfl⟩
  rw [hk.out] at hA
  obtain ⟨b, hb⟩ : ∃ b, Hid (T j = b) := ⟨_, Lib.hid rfl⟩
  rw [hb.out] at hbt ⊢
  clear h h1 hN hp hT hbk hb
  go_enter Try.func18, Try.ntmps18
  go_wp2_with (with_reducible refine stop_load 29 ?_)
  refine Stop.mk (wpList_load_cells rfl rfl rfl hld ?_)
  clear hld
  clear hw1
  go_wp2_with fail
  refine hA.out.mono ?_
  rintro e w2 ⟨bx, cx, rfl, hO, hb2, hbx⟩
  have hB2 := Lib.hid (hB1.out.trans (hb2.mono hB1.out.size))
  have hC := has_calls w2 (.slice (some ⟨bx, 0, none⟩) 512 cx) bk (i : Int) hO.rd (by rw [hl5.out]; omega) (by omega) (by have := hi4.out; omega)
  rw [hasP_at hl5.out hi4.out, hbt] at hC
  have hC := Lib.hid hC
  clear hb2 hA hO hbt
  go_wp2_with fail
  refine hC.out.mono ?_
  rintro e w3 ⟨rfl, rfl⟩
  go_wp2
  go_ret2
  exact ⟨rfl, hB2.out⟩
end Go.Proofs.Ytefbmbfhhhjgkaa
