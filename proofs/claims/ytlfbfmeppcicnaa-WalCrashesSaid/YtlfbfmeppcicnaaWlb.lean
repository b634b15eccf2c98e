/- The log's laws: a log begun, the known case. Printed by genlb.py. -/
import Derived.Test.YtlfbfmeppcicnaaWla
namespace Go.Proofs.Ytlfbfmeppcicnaa
open Go.RowKit
theorem FullM (w : World) (b : UInt8) (m : Nat × Nat) : Calls Try.prog 19 #[.slice (some ⟨w.heap.size, 0, none⟩) 1 1] (w.alloc (.cells #[bv b] 5 m)) (fun e w' => ∃ A c, e = .returned (.slice A 512 c) ∧ Own8 w' (.slice A 512 c) (fullP [b]) ∧ Below w.heap.size w w') := by
  refine (Full_calls _ _ [b] (rd_mark w (bvs [b]) 5 m 1 rfl) (by simp)).mono ?_
  rintro e w' ⟨r, rfl, ho, hB, _⟩
  obtain ⟨A, c, e⟩ := ho.shape
  rw [fullP_len] at e
  subst e
  exact ⟨A, c, rfl, ho, ((Below.refl w.heap.size w).alloc (Nat.le_refl _) _).trans (hB.mono (by simp))⟩
theorem FullB (w : World) (bs : List UInt8) (x : Value) (hx : Rd w x (bvs bs)) (hl : bs.length ≤ 1000000000) : Calls Try.prog 19 #[x] w (fun e w' => ∃ A c, e = .returned (.slice A 512 c) ∧ Own8 w' (.slice A 512 c) (fullP bs) ∧ Below w.heap.size w w') := by
  refine (Full_calls _ _ bs hx hl).mono ?_
  rintro e w' ⟨r, rfl, ho, hB, _⟩
  obtain ⟨A, c, e⟩ := ho.shape
  rw [fullP_len] at e
  subst e
  exact ⟨A, c, rfl, ho, hB⟩
theorem RdOut.ok {w w' : World} {er : Int} {bs : List UInt8} {e : Ending} (h : RdOut w er bs e w') (h0 : er = 0) (h5 : bs.length = 512) : ∃ b c, e = .returned (.tuple #[.slice (some ⟨b, 0, none⟩) 512 c, .int .i64 0]) ∧ Own8 w' (.slice (some ⟨b, 0, none⟩) 512 c) bs ∧ Below w.heap.size w w' ∧ w.heap.size ≤ b ∧ b < w'.heap.size := by
  rcases h with ⟨_, r, rfl, ho, hB, hn⟩ | ⟨h1, _⟩
  · obtain ⟨b, c, rfl⟩ := own_at ho (by omega)
    rw [h5] at ho hn ⊢
    have hown : World.ownsRow w' 0 5 1 (.slice (some ⟨b, 0, none⟩) 512 c) bs.length (bvs bs) := ho
    exact ⟨b, c, rfl, ho, hB, hn b rfl, (World.ownsRow.lt hown b rfl).2⟩
  · exact absurd h0 h1
theorem RdOut.bad {w w' : World} {er : Int} {bs : List UInt8} {e : Ending} (h : RdOut w er bs e w') (h0 : er ≠ 0) : e = .returned (.tuple #[.slice none 0 0, .int .i64 er]) ∧ w = w' := by
  rcases h with ⟨h1, _⟩ | ⟨_, h1⟩
  · exact absurd h1 h0
  · exact h1
theorem Own8.keepX {w w' : World} {b c : Nat} {bs : List UInt8} {X : Nat → Prop} (h : Own8 w (.slice (some ⟨b, 0, none⟩) 512 c) bs) (h5 : bs.length = 512) (hk : KeepX X w w') (hb : X b) : Own8 w' (.slice (some ⟨b, 0, none⟩) 512 c) bs := by
  have h1 : World.ownsRow w 0 5 1 (.slice (some ⟨b, 0, none⟩) 512 c) bs.length (bvs bs) := h
  rw [h5] at h1
  have := own_keep h1 (hk b hb)
  show World.ownsRow w' 0 5 1 (.slice (some ⟨b, 0, none⟩) 512 c) bs.length (bvs bs)
  rw [h5]
  exact this
def BegunOut (w : World) (e : Ending) (w' : World) : Prop := ∃ gl g d, e = .returned (.tuple #[.pointer (some ⟨gl, 0, none⟩), .pointer (some ⟨g, 0, none⟩)]) ∧ LC w w' gl g 135 (freshK d) fmtV fun _ => False
set_option maxRecDepth 10000 in
set_option maxHeartbeats 4000000 in
theorem begun_calls (w : World) : Calls Try.prog 16 #[] w (BegunOut w) := by
  go_enter Try.func16, Try.ntmps16
  go_wp2_with fail
  refine (cNew w 135 (by omega) (by omega)).mono ?_
  rintro e w1 ⟨g, rfl, hd⟩
  have hF := Lib.hid (cFormat hd (by omega))
  clear hd
  go_wp2_with fail
  refine hF.out.mono ?_
  rintro e w2 ⟨d, gl, rfl, hl, _⟩
  have hl := Lib.hid hl
  clear hF
  go_wp2
  go_ret2
  exact ⟨gl, g, d, rfl, hl.out⟩
theorem fullP_lenA {A bs : List UInt8} (h : Hid (A = fullP bs)) : A.length = 512 := by rw [h.out]; exact fullP_len _
theorem tput_ok (k : Nat) (hk : k < 70) (A : List UInt8) (hA : A.length = 512) (ov : Bool) (ho : ov = false) : twriteP 70 ⟨fun _ => none, ov⟩ (k : Int) A = (0, tput ⟨fun _ => none, ov⟩ k A) := by
  have e : twriteE 70 ⟨fun _ => none, ov⟩ (k : Int) A = 0 := by
    unfold twriteE
    rw [if_neg (by omega), if_neg (by simp [ho]), if_neg]
    rintro ⟨_, h⟩
    have : (ksW 70 fun _ => none).length = 0 := by
      unfold ksW
      rw [List.filter_eq_nil_iff.2 (by simp)]
      rfl
    rw [this] at h
    cases h
  unfold twriteP
  rw [e]
  rfl
set_option maxRecDepth 100000 in
set_option maxHeartbeats 16000000 in
theorem known_calls (w : World) : Calls Try.prog 12 #[] w fun e w' => e = .returned (.bool true) ∧ Below w.heap.size w w' := by
  obtain ⟨A, hA⟩ : ∃ A, Hid (A = fullP [97]) := ⟨_, Lib.hid rfl⟩
  obtain ⟨B, hBq⟩ : ∃ B, Hid (B = fullP [98]) := ⟨_, Lib.hid rfl⟩
  have lA : Hid (A.length = 512) := fullP_lenA hA
  have lB : Hid (B.length = 512) := fullP_lenA hBq
  have hcv := fun (W : World) (C : Array Value) => Lib.run_convert_bytes_const (P := Try.prog) W 32 5 C 1 1 Try.underlying32 Try.underlying5
  have hN : Hid (65 < 135 ∧ 135 ≤ 16000) := ⟨by omega, by omega⟩
  go_enter Try.func12, Try.ntmps12
  go_wp2_with fail
  refine (cNew w 135 (by omega) (by omega)).mono ?_
  rintro e w1 ⟨g, rfl, hd⟩
  have hF := Lib.hid (cFormat hd hN.out)
  clear hd
  go_wp2_with fail
  refine hF.out.mono ?_
  rintro e w2 ⟨d, gl, rfl, hl, _⟩
  have hBl := Lib.hid (cBlocks hl hN.out)
  have hl := Lib.hid hl
  clear hF
  go_wp2_with fail
  refine hBl.out.mono ?_
  rintro e w3 ⟨rfl, rfl⟩
  clear hBl
  go_wp2_with fail
  refine (LRoom_calls w2 _).mono ?_
  rintro e w3 ⟨rfl, rfl⟩
  have hBg := Lib.hid (cBegin hl.out rfl)
  clear hl
  go_wp2_with fail
  refine hBg.out.mono ?_
  rintro e w3 ⟨gt, rfl, ht, _⟩
  have ht := Lib.hid ht
  clear hBg
  go_wp2_with fail
  refine (FullM w3 97 (1, 2)).mono ?_
  rintro e w4 ⟨fA, fc, rfl, hfo, hfb⟩
  rw [← hA.out] at hfo
  have hW := cWrite (ht.out.below hfb) hN.out 3 (by omega) (by omega) _ A (Rd.of_own hfo) (by rw [lA.out]; omega)
  rw [show twriteP (135 - 65) ⟨fun _ => none, false⟩ 3 A = (0, tput ⟨fun _ => none, false⟩ 3 A) from tput_ok 3 (by omega) A lA.out false rfl] at hW
  have hW := Lib.hid hW
  clear ht hfo hfb
  go_wp2_with fail
  refine hW.out.mono ?_
  rintro e w5 ⟨rfl, ht, _⟩
  have hC := Lib.hid (cCommit ht hN.out rfl ⟨Int.le_refl _, by show (0 : Int) ≤ _; omega⟩)
  clear ht hW
  go_wp2_with fail
  refine hC.out.mono ?_
  rintro e w6 ⟨rfl, y, V1, ht, _, hv1, hop1, _, _⟩
  have hv1 : Hid (datP y V1 3 = A) := by show _ = _; rw [hv1 3 (by omega)]; rfl
  have hop1 := Lib.hid hop1
  have hSy := Lib.hid (cSync ht.lc hN.out)
  clear ht hC
  go_wp2_with fail
  refine hSy.out.mono ?_
  rintro e w7 ⟨rfl, d2, V2, ⟨hl, _⟩, hv2⟩
  have hv2 : Hid (V2 68 = A) := by show _ = _; rw [← hv1.out, ← hv2 3 (by omega)]
  have hBg := Lib.hid (cBegin hl hop1.out)
  clear hSy hl hv1
  go_wp2_with fail
  refine hBg.out.mono ?_
  rintro e w8 ⟨gt2, rfl, ht, _⟩
  have ht := Lib.hid ht
  clear hBg
  go_wp2_with fail
  refine (FullM w8 98 (1, 2)).mono ?_
  rintro e w9 ⟨fA, fc, rfl, hfo, hfb⟩
  rw [← hBq.out] at hfo
  have hW := cWrite (ht.out.below hfb) hN.out 3 (by omega) (by omega) _ B (Rd.of_own hfo) (by rw [lB.out]; omega)
  rw [show twriteP (135 - 65) ⟨fun _ => none, false⟩ 3 B = (0, tput ⟨fun _ => none, false⟩ 3 B) from tput_ok 3 (by omega) B lB.out false rfl] at hW
  have hW := Lib.hid hW
  clear ht hfo hfb
  go_wp2_with fail
  refine hW.out.mono ?_
  rintro e w10 ⟨rfl, ht, _⟩
  have hC := Lib.hid (cCommit ht hN.out rfl ⟨Int.le_refl _, by show (0 : Int) ≤ _; omega⟩)
  clear ht hW
  go_wp2_with fail
  refine hC.out.mono ?_
  rintro e w11 ⟨rfl, y2, V3, ht, _, hv3, hop2, _, hv4⟩
  have hfit : fitsP (135 - 65) ⟨d2, fun _ => none, 0, true⟩ (tput ⟨fun _ => none, false⟩ 3 B) = true := by
    unfold fitsP
    rw [decide_eq_true_iff]
    have e0 : (ksW (135 - 65) fun _ => none).length = 0 := by
      unfold ksW
      rw [List.filter_eq_nil_iff.2 (by simp)]
      rfl
    have e1 : (ksW (135 - 65) (tput ⟨fun _ => none, false⟩ 3 B).m).length ≤ 1 := by
      have := filter_one (l := List.range (135 - 65)) List.nodup_range (k := 3) (by simp) (p := fun _ => false) (p' := fun j => ((tput ⟨fun _ => none, false⟩ 3 B).m j).isSome) rfl (fun j hj => by
        show (if j = 3 then some B else none).isSome = false
        rw [if_neg hj]
        rfl)
      unfold ksW
      rw [this, List.filter_eq_nil_iff.2 (by simp)]
      split <;> simp
    have e2 := List.length_filter_le (fun k => !((⟨d2, fun _ => none, 0, true⟩ : Lk).wt k).isSome) (ksW (135 - 65) (tput ⟨fun _ => none, false⟩ 3 B).m)
    show (ksW (135 - 65) fun _ => none).length + _ ≤ 63
    omega
  have hv4 : Hid (V3 68 = A) := by show _ = _; rw [hv4 68 hfit, hv2.out]
  have hv3 : Hid (datP y2 V3 3 = B) := by show _ = _; rw [hv3 3 (by omega)]; rfl
  have hl := ht.lc
  have hR := cRead hl hN.out 3
  rw [show lvalP y2 (Int.toNat 3) = B by rw [show Int.toNat 3 = 3 from rfl, hl.la.val (by omega), hv3.out]] at hR
  have hR := Lib.hid hR
  have hl := Lib.hid hl
  clear ht hC hop2 hv2 hfit hv3 hop1
  go_wp2_with fail
  refine hR.out.mono ?_
  intro e w12 hr
  obtain ⟨bx, cx, rfl, hx, hxb, hx1, hx2⟩ := hr.ok rfl lB.out
  have hl := hl.out.more (Y := fun k => k = bx) hxb (fun k hk => .inr (by subst hk; exact ⟨hx1, hx2⟩))
  have h00 := Lib.hid hl.la.h0
  have hCt := Lib.hid (cCut hl.dc (by omega) (.slice none 0 0) [] (Rd.nil _ _ _) (fun h => absurd rfl h) (by simp))
  have hx := Lib.hid hx
  clear hr hR hxb hx1 hx2 hl
  go_wp2_with fail
  refine hCt.out.mono ?_
  rintro e w13 ⟨rfl, hdo, hk13⟩
  have hx := Lib.hid (hx.out.keepX lB.out hk13 rfl)
  have hOn := Lib.hid (cOn hdo)
  clear hCt hdo hk13
  go_wp2_with fail
  refine hOn.out.mono ?_
  rintro e w14 ⟨rfl, hdc, hk14⟩
  have hx := Lib.hid (hx.out.keepX lB.out hk14 rfl)
  have hOp := Lib.hid (cOpen hdc hN.out h00.out)
  clear hOn hdc hk14 h00
  go_wp2_with fail
  refine hOp.out.mono ?_
  rintro e w15 ⟨gl2, rfl, hl, hk15⟩
  have hx := Lib.hid (hx.out.keepX lB.out hk15 rfl)
  have hR := cRead hl hN.out 3
  rw [show lvalP (freshK (onD (cutD y2.d []))) (Int.toNat 3) = A by rw [show Int.toNat 3 = 3 from rfl, hl.la.val (by omega)]; exact hv4.out] at hR
  have hR := Lib.hid hR
  have hbel := Lib.hid hl.bel
  clear hOp hk15 hl hv4
  go_wp2_with fail
  refine hR.out.mono ?_
  intro e w17 hr
  obtain ⟨bz, cz, rfl, hz, hzb, _, _⟩ := hr.ok rfl lA.out
  have hxR := Lib.hid ((Rd.of_own hx.out).below hzb)
  have hyR := Lib.hid (Rd.of_own hz)
  have hBW := Lib.hid (hbel.out.trans (hzb.mono hbel.out.size))
  clear hr hR hz hzb hx hbel
  go_wp2_with fail
  refine wp_mixs (fun W => Below w17.heap.size w17 W) [2, 3, 4, 10, 11, 12] (by kernel_rfl) (by kernel_rfl) (by kernel_rfl) (by decide) ((Below.refl _ _).drew) ?_
  iterate 2 ((first | refine mixsq rfl rfl 0 (by decide +kernel) ?_ (fun w' hw' => Or.inl ?_) (fun K hK => ?_) | refine mixsq rfl rfl 1 (by decide +kernel) ?_ (fun w' hw' => Or.inl ?_) (fun K hK => ?_) | refine mixsq rfl rfl 2 (by decide +kernel) ?_ (fun w' hw' => Or.inl ?_) (fun K hK => ?_) | refine mixsq rfl rfl 3 (by decide +kernel) ?_ (fun w' hw' => Or.inl ?_) (fun K hK => ?_) | refine mixsq rfl rfl 4 (by decide +kernel) ?_ (fun w' hw' => Or.inl ?_) (fun K hK => ?_) | refine mixsq rfl rfl 5 (by decide +kernel) ?_ (fun w' hw' => Or.inl ?_) (fun K hK => ?_) | refine mixsq rfl rfl 6 (by decide +kernel) ?_ (fun w' hw' => Or.inl ?_) (fun K hK => ?_) | refine mixsq rfl rfl 7 (by decide +kernel) ?_ (fun w' hw' => Or.inl ?_) (fun K hK => ?_)); rotate_left; (focus (have hb : Below w17.heap.size w17 w' := hw'; have s1 := run_str (P := Try.prog) w' 32 9 5 _ _ Try.underlying32 Try.underlying5 Try.underlying9 (hxR.out.below hb); unfold str at s1; go_simp; rfl)); go_simp; refine hK _ ?_; clear hK K)
  refine mixsl rfl rfl (fun K hK => ?_)
  go_simp
  have b5 : Below w17.heap.size w17 (w17.drew.alloc (.cells #[.int .u8 98] 5)) := ((Below.refl w17.heap.size w17).drew).alloc (Nat.le_refl _) _
  refine hK (fun W => Below w17.heap.size w17 W) _ _ (fun _ => ⟨b5, fun _ => b5⟩) ?_
  clear hK K
  refine mixsl rfl rfl (fun K hK => ?_)
  have hcv1 : Sem.run Try.prog (convert 32 32 (.slice (some ⟨w17.heap.size, 0, none⟩) 1 1)) (w17.alloc (.cells #[.int .u8 98] 5)).drew = .ok (.slice (some ⟨w17.heap.size, 0, none⟩) 1 1) (w17.drew.alloc (.cells #[.int .u8 98] 5 (1, 2))) := hcv w17.drew #[.int .u8 98]
  go_simp
  have b6 : Below w17.heap.size w17 (w17.drew.alloc (.cells #[.int .u8 98] 5 (1, 2))) := ((Below.refl w17.heap.size w17).drew).alloc (Nat.le_refl _) _
  refine hK (fun W => Below w17.heap.size w17 W) _ _ (fun _ => ⟨b6, ext_all (fun _ => b6) b6⟩) ?_
  clear hK K
  refine mixsl rfl rfl (fun K hK => ?_)
  go_simp
  refine (FullM w17.drew 98 (1, 2)).mono ?_
  rintro e w18 ⟨fA, fc, rfl, hfo, hfb⟩
  have b7 : Below w17.heap.size w17 w18 := ⟨hfb.os, hfb.tape, hfb.output, hfb.size, hfb.block⟩
  have r7 := Rd.of_own hfo
  rw [← hBq.out] at r7
  refine hK (fun W => Below w17.heap.size w17 W ∧ Rd W (.slice fA 512 fc) (bvs B)) _ _ (fun _ => ⟨⟨b7, r7⟩, ext_all (ext_all (fun _ => b7) b7) b7⟩) ?_
  clear hK K
  (refine mixsq rfl rfl 3 (by decide +kernel) ?_ (fun w' hw' => Or.inl ?_) (fun K hK => ?_)); rotate_left; (focus (have hb0 : Below w17.heap.size w17 w' ∧ Rd w' (.slice fA 512 fc) (bvs B) := hw'; have s1 := run_str (P := Try.prog) w' 32 9 5 _ _ Try.underlying32 Try.underlying5 Try.underlying9 hb0.2; unfold str at s1; go_simp; rfl)); go_simp; refine hK _ ?_; clear hK K
  iterate 2 ((first | refine mixsq rfl rfl 0 (by decide +kernel) ?_ (fun w' hw' => Or.inl ?_) (fun K hK => ?_) | refine mixsq rfl rfl 1 (by decide +kernel) ?_ (fun w' hw' => Or.inl ?_) (fun K hK => ?_) | refine mixsq rfl rfl 2 (by decide +kernel) ?_ (fun w' hw' => Or.inl ?_) (fun K hK => ?_) | refine mixsq rfl rfl 3 (by decide +kernel) ?_ (fun w' hw' => Or.inl ?_) (fun K hK => ?_) | refine mixsq rfl rfl 4 (by decide +kernel) ?_ (fun w' hw' => Or.inl ?_) (fun K hK => ?_) | refine mixsq rfl rfl 5 (by decide +kernel) ?_ (fun w' hw' => Or.inl ?_) (fun K hK => ?_) | refine mixsq rfl rfl 6 (by decide +kernel) ?_ (fun w' hw' => Or.inl ?_) (fun K hK => ?_) | refine mixsq rfl rfl 7 (by decide +kernel) ?_ (fun w' hw' => Or.inl ?_) (fun K hK => ?_)); rotate_left; (focus (go_simp; rfl)); go_simp; refine hK _ ?_; clear hK K)
  (first | refine mixsq_yes rfl (by first | rfl | kernel_rfl) 0 (by decide +kernel) ?_ (fun w' hw' => Or.inl ?_) (fun K hK => ?_) | refine mixsq_yes rfl (by first | rfl | kernel_rfl) 1 (by decide +kernel) ?_ (fun w' hw' => Or.inl ?_) (fun K hK => ?_) | refine mixsq_yes rfl (by first | rfl | kernel_rfl) 2 (by decide +kernel) ?_ (fun w' hw' => Or.inl ?_) (fun K hK => ?_) | refine mixsq_yes rfl (by first | rfl | kernel_rfl) 3 (by decide +kernel) ?_ (fun w' hw' => Or.inl ?_) (fun K hK => ?_) | refine mixsq_yes rfl (by first | rfl | kernel_rfl) 4 (by decide +kernel) ?_ (fun w' hw' => Or.inl ?_) (fun K hK => ?_) | refine mixsq_yes rfl (by first | rfl | kernel_rfl) 5 (by decide +kernel) ?_ (fun w' hw' => Or.inl ?_) (fun K hK => ?_) | refine mixsq_yes rfl (by first | rfl | kernel_rfl) 6 (by decide +kernel) ?_ (fun w' hw' => Or.inl ?_) (fun K hK => ?_) | refine mixsq_yes rfl (by first | rfl | kernel_rfl) 7 (by decide +kernel) ?_ (fun w' hw' => Or.inl ?_) (fun K hK => ?_)); rotate_left; (focus (go_simp; rfl)); go_simp; refine hK _ ?_; clear hK K
  (refine mixsq_yes rfl (by first | rfl | kernel_rfl) 3 (by decide +kernel) ?_ (fun w' hw' => Or.inl ?_) (fun K hK => ?_)); rotate_left; (focus (have hb0 : Below w17.heap.size w17 w' ∧ Rd w' (.slice fA 512 fc) (bvs B) := hw'; have s1 := run_str (P := Try.prog) w' 32 9 5 _ _ Try.underlying32 Try.underlying5 Try.underlying9 (hyR.out.below hb0.1); unfold str at s1; go_simp; rfl)); go_simp; refine hK _ ?_; clear hK K
  refine mixsl_yes rfl (by first | rfl | kernel_rfl) (fun K hK => ?_)
  go_simp
  have c5 : Below w17.heap.size w17 (w18.alloc (.cells #[.int .u8 97] 5)) := b7.alloc b7.size _
  have c5r : Rd (w18.alloc (.cells #[.int .u8 97] 5)) (.slice fA 512 fc) (bvs B) := r7.alloc _
  refine hK (fun W => Below w17.heap.size w17 W) _ _ (fun _ => ⟨c5, ext_all (ext_all (ext_all (fun _ => c5) c5) c5) ⟨c5, c5r⟩⟩) ?_
  clear hK K
  refine mixsl_yes rfl (by first | rfl | kernel_rfl) (fun K hK => ?_)
  have hcv2 : Sem.run Try.prog (convert 32 32 (.slice (some ⟨w18.heap.size, 0, none⟩) 1 1)) (w18.alloc (.cells #[.int .u8 97] 5)) = .ok (.slice (some ⟨w18.heap.size, 0, none⟩) 1 1) (w18.alloc (.cells #[.int .u8 97] 5 (1, 2))) := hcv w18 #[.int .u8 97]
  go_simp
  have c6 : Below w17.heap.size w17 (w18.alloc (.cells #[.int .u8 97] 5 (1, 2))) := b7.alloc b7.size _
  have c6r : Rd (w18.alloc (.cells #[.int .u8 97] 5 (1, 2))) (.slice fA 512 fc) (bvs B) := r7.alloc _
  refine hK (fun W => Below w17.heap.size w17 W) _ _ (fun _ => ⟨c6, ext_all (ext_all (ext_all (ext_all (fun _ => c6) c6) c6) ⟨c6, c6r⟩) c6⟩) ?_
  clear hK K
  refine mixsl_yes rfl (by first | rfl | kernel_rfl) (fun K hK => ?_)
  go_simp
  refine (FullM w18 97 (1, 2)).mono ?_
  rintro e w19 ⟨gA, gc, rfl, hgo, hgb⟩
  have d7 : Below w17.heap.size w17 w19 := b7.trans (hgb.mono b7.size)
  have s7 := Rd.of_own hgo
  rw [← hA.out] at s7
  have d7r : Rd w19 (.slice fA 512 fc) (bvs B) := r7.below hgb
  refine hK (fun W => Below w17.heap.size w17 W ∧ Rd W (.slice gA 512 gc) (bvs A)) _ _ (fun _ => ⟨⟨d7, s7⟩, ext_all (ext_all (ext_all (ext_all (ext_all (fun _ => d7) d7) d7) ⟨d7, d7r⟩) d7) d7⟩) ?_
  clear hK K
  (refine mixsq_yes rfl (by first | rfl | kernel_rfl) 6 (by decide +kernel) ?_ (fun w' hw' => Or.inl ?_) (fun K hK => ?_)); rotate_left; (focus (have hb0 : Below w17.heap.size w17 w' ∧ Rd w' (.slice gA 512 gc) (bvs A) := hw'; have s1 := run_str (P := Try.prog) w' 32 9 5 _ _ Try.underlying32 Try.underlying5 Try.underlying9 hb0.2; unfold str at s1; go_simp; rfl)); go_simp; refine hK _ ?_; clear hK K
  (first | refine mixsq_yes rfl (by first | rfl | kernel_rfl) 0 (by decide +kernel) ?_ (fun w' hw' => Or.inl ?_) (fun K hK => ?_) | refine mixsq_yes rfl (by first | rfl | kernel_rfl) 1 (by decide +kernel) ?_ (fun w' hw' => Or.inl ?_) (fun K hK => ?_) | refine mixsq_yes rfl (by first | rfl | kernel_rfl) 2 (by decide +kernel) ?_ (fun w' hw' => Or.inl ?_) (fun K hK => ?_) | refine mixsq_yes rfl (by first | rfl | kernel_rfl) 3 (by decide +kernel) ?_ (fun w' hw' => Or.inl ?_) (fun K hK => ?_) | refine mixsq_yes rfl (by first | rfl | kernel_rfl) 4 (by decide +kernel) ?_ (fun w' hw' => Or.inl ?_) (fun K hK => ?_) | refine mixsq_yes rfl (by first | rfl | kernel_rfl) 5 (by decide +kernel) ?_ (fun w' hw' => Or.inl ?_) (fun K hK => ?_) | refine mixsq_yes rfl (by first | rfl | kernel_rfl) 6 (by decide +kernel) ?_ (fun w' hw' => Or.inl ?_) (fun K hK => ?_) | refine mixsq_yes rfl (by first | rfl | kernel_rfl) 7 (by decide +kernel) ?_ (fun w' hw' => Or.inl ?_) (fun K hK => ?_)); rotate_left; (focus (go_simp; rfl)); go_simp; refine hK _ ?_; clear hK K
  iterate 2 ((first | refine mixsq rfl rfl 0 (by decide +kernel) ?_ (fun w' hw' => Or.inl ?_) (fun K hK => ?_) | refine mixsq rfl rfl 1 (by decide +kernel) ?_ (fun w' hw' => Or.inl ?_) (fun K hK => ?_) | refine mixsq rfl rfl 2 (by decide +kernel) ?_ (fun w' hw' => Or.inl ?_) (fun K hK => ?_) | refine mixsq rfl rfl 3 (by decide +kernel) ?_ (fun w' hw' => Or.inl ?_) (fun K hK => ?_) | refine mixsq rfl rfl 4 (by decide +kernel) ?_ (fun w' hw' => Or.inl ?_) (fun K hK => ?_) | refine mixsq rfl rfl 5 (by decide +kernel) ?_ (fun w' hw' => Or.inl ?_) (fun K hK => ?_) | refine mixsq rfl rfl 6 (by decide +kernel) ?_ (fun w' hw' => Or.inl ?_) (fun K hK => ?_) | refine mixsq rfl rfl 7 (by decide +kernel) ?_ (fun w' hw' => Or.inl ?_) (fun K hK => ?_)); rotate_left; (focus (go_simp; rfl)); go_simp; refine hK _ ?_; clear hK K)
  refine mixs_nil ?_
  have hBe := hBW.out.trans (d7.mono hBW.out.size)
  go_wp2
  go_ret
  exact ⟨rfl, hBe⟩
end Go.Proofs.Ytlfbfmeppcicnaa
