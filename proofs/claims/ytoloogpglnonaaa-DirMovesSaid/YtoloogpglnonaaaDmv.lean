/- The walk of DirMoves. -/
import Derived.Test.YtoloogpglnonaaaDpl
namespace Go.Proofs.Ytoloogpglnonaaa
open Go.RowKit
theorem own_dis {w : World} {v : Value} {es : List Ent} (h : OwnE w v es) : RdE w v es := h.rd
set_option maxRecDepth 100000 in
set_option maxHeartbeats 8000000 in
theorem DirMoves_calls (w : World) {n which : Int} {name2 : List UInt8} (ww0 : (Lit.int .i64 n).wf = true) (ww1 : (Lit.int .i64 which).wf = true) (ll2 : name2.length ≤ 9223372036854775807) :
    Calls Try.prog 4 #[.int .i64 n, .int .i64 which, .string ⟨name2.toArray⟩] w fun e w' => e = .returned (.bool true) ∧ Below w.heap.size w w' := by
  obtain ⟨n1, n2⟩ := wf64 ww0
  obtain ⟨m1, m2⟩ := wf64 ww1
  have hbsz : (⟨name2.toArray⟩ : ByteArray).size = name2.length := by simp [ByteArray.size]
  by_cases hg : n < 1
  · go_enter Try.func4, Try.ntmps4
    go_wp2_with fail
    refine (dknown_calls w).mono ?_
    rintro e w1 ⟨rfl, hB1⟩
    go_wp2
    go_ret
    exact ⟨rfl, hB1⟩
  by_cases hg2 : 40 < n
  · go_enter Try.func4, Try.ntmps4
    go_wp2_with fail
    refine (dknown_calls w).mono ?_
    rintro e w1 ⟨rfl, hB1⟩
    go_wp2
    go_ret
    exact ⟨rfl, hB1⟩
  by_cases hg3 : 100 < name2.length
  · go_enter Try.func4, Try.ntmps4
    go_wp2_with fail
    refine (dknown_calls w).mono ?_
    rintro e w1 ⟨rfl, hB1⟩
    go_wp2
    go_ret
    exact ⟨rfl, hB1⟩
  obtain ⟨N, rfl⟩ : ∃ N : Nat, n = (N : Int) := ⟨n.toNat, by omega⟩
  have hN : 1 ≤ N := by omega
  have hN2 : N ≤ 40 := by omega
  have hK : ∃ K : Nat, K < N ∧ (Int.tmod which (N : Int) = (K : Int) ∨ (0 < K ∧ Int.tmod which (N : Int) = -(K : Int))) := by
    have hqa : Int.tmod which (N : Int) < N := Int.tmod_lt_of_pos _ (by omega)
    have hqb : -(N : Int) < Int.tmod which (N : Int) := Int.lt_tmod_of_pos _ (by omega)
    by_cases h : Int.tmod which (N : Int) < 0
    · exact ⟨(-(Int.tmod which (N : Int))).toNat, by omega, .inr ⟨by omega, by omega⟩⟩
    · exact ⟨(Int.tmod which (N : Int)).toNat, by omega, .inl (by omega)⟩
  obtain ⟨K, hKN, hKc⟩ := hK
  have hML := Lib.hid (move_law N K (by omega) hKN name2)
  have hKc := Lib.hid hKc
  go_enter Try.func4, Try.ntmps4
  go_wp2_with fail
  refine (dknown_calls w).mono ?_
  rintro e w1 ⟨rfl, hB1⟩
  go_wp2
  go_loopw [7, 8] (fun s i wr => ∃ (k : Nat) (v : Value), k ≤ N ∧ i = .int .i64 k ∧ s = v ∧ Hid (RdE wr v (genE k)) ∧ Hid (Below w.heap.size w wr)) (fun _ i _ => N - (intOf i).toNat)
  case atStart => exact ⟨0, _, Nat.zero_le _, rfl, rfl, RdE.nil _, hB1⟩
  case round =>
    obtain ⟨k, s, hk, rfl, hs, hR, hB⟩ := hrel
    have hs := hs.symm
    subst hs
    clear hB1
    by_cases hlt : k < N
    · have hNm := Lib.hid (name_calls wr k (by omega))
      obtain ⟨dd, hPg⟩ : ∃ dd : Int, Hid (putP (genE k) (nameK k) ((k : Int) + 1) = (genE (k + 1), dd, 0)) := ⟨_, put_gen k (by omega)⟩
      go_wp2_with fail
      refine hNm.out.mono ?_
      rintro e w3 ⟨rfl, hB3⟩
      have hB3' := Lib.hid (hB.out.trans (hB3.mono hB.out.size))
      have hP := Put_calls w3 s (genE k) (nameK k) ((k : Int) + 1) (hR.out.below hB3) (by rw [genE_len]; omega) (by rw [nameK_len]; decide)
      rw [hPg.out] at hP
      have hP := Lib.hid hP
      clear hNm hPg hB3 hR hB
      go_wp2_with fail
      refine hP.out.mono ?_
      rintro e w4 ⟨v4, rfl, ho4, hB4, _⟩
      have hB4' := Lib.hid (hB3'.out.trans (hB4.mono hB3'.out.size))
      have hR4 := Lib.hid ho4.rd
      clear hP hB3' ho4 hB4
      go_wp2
      go_roundw
      case rel => exact ⟨k + 1, _, by omega, rfl, rfl, hR4, hB4'⟩
      case measure => simp [intOf]; omega
    · obtain rfl : k = N := by omega
      have hlen := Lib.hid (genE_len k)
      have hsh := Lib.hid (genE_short k)
      generalize genE k = es at *
      have hN0 : ¬ ((k : Int) = 0) := by omega
      rcases hKc.out with hKm | ⟨hKp, hKm⟩
      all_goals
        clear hKc
        go_wp2_with fail
        refine (name_calls wr K (by omega)).mono ?_
        rintro e w3 ⟨rfl, hB3⟩
        have hB3' := Lib.hid (hB.out.trans (hB3.mono hB.out.size))
        have hR3 := Lib.hid (hR.out.below hB3)
        have hM := Lib.hid (Move_calls w3 s es (nameK K) name2 hR3.out (by have := hlen.out; omega) ll2)
        clear hB3 hR hB
        go_wp2_with fail
        refine hM.out.mono ?_
        rintro e w4 ⟨v4, rfl, ho4, hB4, _⟩
        have hB4' := Lib.hid (hB3'.out.trans (hB4.mono hB3'.out.size))
        have hR4 := Lib.hid (hR3.out.below hB4)
        rcases hML.out with ⟨hn, hmv⟩ | ⟨hn, ⟨x, hf⟩, hmv⟩ | ⟨t, x, no, hmv, hft, hmb, hfo, hno, htl⟩
        · rw [hmv]
          have hF := Lib.hid (Find_calls w4 s es name2 hR4.out (by have := hlen.out; omega))
          obtain ⟨fd, hfd⟩ : ∃ fd, findP es name2 = fd := ⟨_, rfl⟩
          rw [hfd] at hF
          obtain ⟨f1, f2⟩ := fd
          have hNn : Hid (∀ W, Calls Try.prog 15 #[.string ⟨name2.toArray⟩] W (Ans W (.bool false))) := fun W => by
            have := Name_calls W name2 ll2
            rw [hn] at this
            exact this
          clear hfd hmv hn hML hM ho4 hB4 hR4 hR3
          go_wp2_with fail
          refine hF.out.mono ?_
          rintro e w5 ⟨rfl, hB5⟩
          have hB5' := Lib.hid (hB4'.out.trans (hB5.mono hB4'.out.size))
          clear hF hB5
          go_wp2_with fail
          refine (hNn.out _).mono ?_
          rintro e w6 ⟨rfl, rfl⟩
          go_wp2
          go_ret
          exact ⟨rfl, hB5'.out⟩
        · rw [hmv]
          have hF := Lib.hid (Find_calls w4 s es name2 hR4.out (by have := hlen.out; omega))
          rw [hf] at hF
          have hNn : Hid (∀ W, Calls Try.prog 15 #[.string ⟨name2.toArray⟩] W (Ans W (.bool true))) := fun W => by
            have := Name_calls W name2 ll2
            rw [hn] at this
            exact this
          clear hf hmv hn hML hM ho4 hB4 hR4 hR3
          go_wp2_with fail
          refine hF.out.mono ?_
          rintro e w5 ⟨rfl, hB5⟩
          have hB5' := Lib.hid (hB4'.out.trans (hB5.mono hB4'.out.size))
          clear hF hB5
          go_wp2_with fail
          refine (hNn.out _).mono ?_
          rintro e w6 ⟨rfl, rfl⟩
          go_wp2
          go_ret
          exact ⟨rfl, hB5'.out⟩
        · rw [hmv] at ho4
          rw [hmv]
          obtain ⟨K0, hK0⟩ : ∃ K0, K0 = K := ⟨_, rfl⟩
          subst hK0
          have hT := Lib.hid (ho4.rd : RdE w4 v4 t)
          have hF := Lib.hid (Find_calls w4 v4 t name2 hT.out (by omega))
          rw [hft] at hF
          have hmb := Lib.hid hmb
          have hfo := Lib.hid hfo
          have htl := Lib.hid htl
          clear hft hmv hML hM ho4 hB4 hR3
          go_wp2_with fail
          refine hF.out.mono ?_
          rintro e w5 ⟨rfl, hB5⟩
          have hB5' := Lib.hid (hB4'.out.trans (hB5.mono hB4'.out.size))
          have hT5 := Lib.hid (hT.out.below hB5)
          have hS5 := Lib.hid (hR4.out.below hB5)
          clear hF hB5 hB4' hT hR4
          go_wp2_with fail
          refine (name_calls w5 K0 (by omega)).mono ?_
          rintro e w6 ⟨rfl, hB6⟩
          have hB6' := Lib.hid (hB5'.out.trans (hB6.mono hB5'.out.size))
          have hT6 := Lib.hid (hT5.out.below hB6)
          have hS6 := Lib.hid (hS5.out.below hB6)
          have hF := Lib.hid (Find_calls w6 v4 t (nameK K0) hT6.out (by have := htl.out; omega))
          rw [hfo.out] at hF
          clear hB6 hB5' hT5 hS5 hfo
          go_wp2_with fail
          refine hF.out.mono ?_
          rintro e w7a ⟨rfl, hB7⟩
          have hB7' := Lib.hid (hB6'.out.trans (hB7.mono hB6'.out.size))
          have hT7 := Lib.hid (hT6.out.below hB7)
          have hS7 := Lib.hid (hS6.out.below hB7)
          clear hF hB7 hB6' hT6 hS6
          go_wp2_with fail
          refine (name_calls w7a K0 (by omega)).mono ?_
          rintro e w7 ⟨rfl, hB7⟩
          have hB7' := Lib.hid (hB7'.out.trans (hB7.mono hB7'.out.size))
          have hT7 := Lib.hid (hT7.out.below hB7)
          have hS7 := Lib.hid (hS7.out.below hB7)
          have hM := Lib.hid (Move_calls w7 v4 t name2 (nameK K0) hT7.out (by have := htl.out; omega) (by rw [nameK_len]; decide))
          rw [hmb.out] at hM
          clear hmb hB7
          go_wp2_with fail
          refine hM.out.mono ?_
          rintro e w8 ⟨v8, rfl, ho8, hB8, _⟩
          have hB8' := Lib.hid (hB7'.out.trans (hB8.mono hB7'.out.size))
          have hR8 := Lib.hid (ho8.rd : RdE w8 v8 es)
          have hS8 := Lib.hid (hS7.out.below hB8)
          clear hM hB8 hB7' hT7 hS7 ho8 htl
          have hwr : IntKind.i64.wrap ((K0 : Int) + 1) = (K0 : Int) + 1 := by rw [IntKind.wrap_i64]; omega
          cases no
          · clear hno
            go_wp2_with fail
            refine wp_mixs (fun W => Below w8.heap.size w8 W) [13, 23, 26] (by kernel_rfl) (by kernel_rfl) (by kernel_rfl) (by decide) ((Below.refl _ _).drew) ?_
            iterate 5 ((first | refine mixsq rfl rfl 0 (by decide +kernel) ?_ (fun w' hw' => Or.inl ?_) (fun K hK => ?_) | refine mixsq rfl rfl 1 (by decide +kernel) ?_ (fun w' hw' => Or.inl ?_) (fun K hK => ?_) | refine mixsq rfl rfl 2 (by decide +kernel) ?_ (fun w' hw' => Or.inl ?_) (fun K hK => ?_) | refine mixsq rfl rfl 3 (by decide +kernel) ?_ (fun w' hw' => Or.inl ?_) (fun K hK => ?_)); rotate_left; (focus (go_simp; rfl)); go_simp; refine hK _ ?_; clear hK K)
            (first | refine mixsq_yes rfl (by first | rfl | kernel_rfl) 0 (by decide +kernel) ?_ (fun w' hw' => Or.inl ?_) (fun K hK => ?_) | refine mixsq_yes rfl (by first | rfl | kernel_rfl) 1 (by decide +kernel) ?_ (fun w' hw' => Or.inl ?_) (fun K hK => ?_) | refine mixsq_yes rfl (by first | rfl | kernel_rfl) 2 (by decide +kernel) ?_ (fun w' hw' => Or.inl ?_) (fun K hK => ?_) | refine mixsq_yes rfl (by first | rfl | kernel_rfl) 3 (by decide +kernel) ?_ (fun w' hw' => Or.inl ?_) (fun K hK => ?_)); rotate_left; (focus (go_simp; rfl)); go_simp; refine hK _ ?_; clear hK K
            iterate 2 ((first | refine mixsq rfl rfl 0 (by decide +kernel) ?_ (fun w' hw' => Or.inl ?_) (fun K hK => ?_) | refine mixsq rfl rfl 1 (by decide +kernel) ?_ (fun w' hw' => Or.inl ?_) (fun K hK => ?_) | refine mixsq rfl rfl 2 (by decide +kernel) ?_ (fun w' hw' => Or.inl ?_) (fun K hK => ?_) | refine mixsq rfl rfl 3 (by decide +kernel) ?_ (fun w' hw' => Or.inl ?_) (fun K hK => ?_)); rotate_left; (focus (go_simp; rfl)); go_simp; refine hK _ ?_; clear hK K)
            iterate 3 ((first | refine mixsq_yes rfl (by first | rfl | kernel_rfl) 0 (by decide +kernel) ?_ (fun w' hw' => Or.inl ?_) (fun K hK => ?_) | refine mixsq_yes rfl (by first | rfl | kernel_rfl) 1 (by decide +kernel) ?_ (fun w' hw' => Or.inl ?_) (fun K hK => ?_) | refine mixsq_yes rfl (by first | rfl | kernel_rfl) 2 (by decide +kernel) ?_ (fun w' hw' => Or.inl ?_) (fun K hK => ?_) | refine mixsq_yes rfl (by first | rfl | kernel_rfl) 3 (by decide +kernel) ?_ (fun w' hw' => Or.inl ?_) (fun K hK => ?_)); rotate_left; (focus (go_simp; rfl)); go_simp; refine hK _ ?_; clear hK K)
            iterate 2 (refine mixsq_no rfl (by first | rfl | kernel_rfl) (fun K hK => ?_); go_simp; refine hK _ ?_; clear hK K)
            refine mixsl_no rfl (by first | rfl | kernel_rfl) (fun K hK => ?_)
            go_simp
            refine hK _ ?_
            clear hK K
            have b9 : Below w8.heap.size w8 w8.drew := (Below.refl _ _).drew
            obtain ⟨w9, hw9⟩ : ∃ w9, w9 = w8.drew := ⟨_, rfl⟩
            rw [← hw9] at b9 ⊢
            clear hw9
            refine mixsq_no rfl (by first | rfl | kernel_rfl) (fun K hK => ?_); go_simp; refine hK _ ?_; clear hK K
            (first | refine mixsq_yes rfl (by first | rfl | kernel_rfl) 0 (by decide +kernel) ?_ (fun w' hw' => Or.inl ?_) (fun K hK => ?_) | refine mixsq_yes rfl (by first | rfl | kernel_rfl) 1 (by decide +kernel) ?_ (fun w' hw' => Or.inl ?_) (fun K hK => ?_) | refine mixsq_yes rfl (by first | rfl | kernel_rfl) 2 (by decide +kernel) ?_ (fun w' hw' => Or.inl ?_) (fun K hK => ?_) | refine mixsq_yes rfl (by first | rfl | kernel_rfl) 3 (by decide +kernel) ?_ (fun w' hw' => Or.inl ?_) (fun K hK => ?_)); rotate_left; (focus (go_simp; rfl)); go_simp; refine hK _ ?_; clear hK K
            iterate 2 ((first | refine mixsq rfl rfl 0 (by decide +kernel) ?_ (fun w' hw' => Or.inl ?_) (fun K hK => ?_) | refine mixsq rfl rfl 1 (by decide +kernel) ?_ (fun w' hw' => Or.inl ?_) (fun K hK => ?_) | refine mixsq rfl rfl 2 (by decide +kernel) ?_ (fun w' hw' => Or.inl ?_) (fun K hK => ?_) | refine mixsq rfl rfl 3 (by decide +kernel) ?_ (fun w' hw' => Or.inl ?_) (fun K hK => ?_)); rotate_left; (focus (go_simp; rfl)); go_simp; refine hK _ ?_; clear hK K)
            iterate 2 ((first | refine mixsq_yes rfl (by first | rfl | kernel_rfl) 0 (by decide +kernel) ?_ (fun w' hw' => Or.inl ?_) (fun K hK => ?_) | refine mixsq_yes rfl (by first | rfl | kernel_rfl) 1 (by decide +kernel) ?_ (fun w' hw' => Or.inl ?_) (fun K hK => ?_) | refine mixsq_yes rfl (by first | rfl | kernel_rfl) 2 (by decide +kernel) ?_ (fun w' hw' => Or.inl ?_) (fun K hK => ?_) | refine mixsq_yes rfl (by first | rfl | kernel_rfl) 3 (by decide +kernel) ?_ (fun w' hw' => Or.inl ?_) (fun K hK => ?_)); rotate_left; (focus (go_simp; rfl)); go_simp; refine hK _ ?_; clear hK K)
            iterate 2 ((first | refine mixsq rfl rfl 0 (by decide +kernel) ?_ (fun w' hw' => Or.inl ?_) (fun K hK => ?_) | refine mixsq rfl rfl 1 (by decide +kernel) ?_ (fun w' hw' => Or.inl ?_) (fun K hK => ?_) | refine mixsq rfl rfl 2 (by decide +kernel) ?_ (fun w' hw' => Or.inl ?_) (fun K hK => ?_) | refine mixsq rfl rfl 3 (by decide +kernel) ?_ (fun w' hw' => Or.inl ?_) (fun K hK => ?_)); rotate_left; (focus (go_simp; rfl)); go_simp; refine hK _ ?_; clear hK K)
            (first | refine mixsq_yes rfl (by first | rfl | kernel_rfl) 0 (by decide +kernel) ?_ (fun w' hw' => Or.inl ?_) (fun K hK => ?_) | refine mixsq_yes rfl (by first | rfl | kernel_rfl) 1 (by decide +kernel) ?_ (fun w' hw' => Or.inl ?_) (fun K hK => ?_) | refine mixsq_yes rfl (by first | rfl | kernel_rfl) 2 (by decide +kernel) ?_ (fun w' hw' => Or.inl ?_) (fun K hK => ?_) | refine mixsq_yes rfl (by first | rfl | kernel_rfl) 3 (by decide +kernel) ?_ (fun w' hw' => Or.inl ?_) (fun K hK => ?_)); rotate_left; (focus (go_simp; rfl)); go_simp; refine hK _ ?_; clear hK K
            refine mixsl_yes rfl (by first | rfl | kernel_rfl) (fun K hK => ?_)
            go_simp
            refine (Bytes_calls w9 v8 es (hR8.out.below b9) (by have := hlen.out; omega) hsh.out).mono ?_
            rintro e w10 ⟨r1, rfl, ho10, hB10, _⟩
            have b10 : Below w8.heap.size w8 w10 := b9.trans (hB10.mono b9.size)
            have rr1 := Rd.of_own ho10
            refine hK (fun W => Below w8.heap.size w8 W ∧ Rd W r1 (bvs (dbytes es))) _ _ (fun _ => ⟨⟨b10, rr1⟩, ext_all (fun _ => b10) b10⟩) ?_
            clear hK K
            (refine mixsq_yes rfl (by first | rfl | kernel_rfl) 2 (by decide +kernel) ?_ (fun w' hw' => Or.inl ?_) (fun K hK => ?_)); rotate_left; (focus (have hw2 : Below w8.heap.size w8 w' ∧ Rd w' r1 (bvs (dbytes es)) := hw'; have s1 := run_str (P := Try.prog) w' 30 9 5 _ _ Try.underlying30 Try.underlying5 Try.underlying9 hw2.2; unfold str at s1; go_simp; rfl)); go_simp; refine hK _ ?_; clear hK K
            (first | refine mixsq_yes rfl (by first | rfl | kernel_rfl) 0 (by decide +kernel) ?_ (fun w' hw' => Or.inl ?_) (fun K hK => ?_) | refine mixsq_yes rfl (by first | rfl | kernel_rfl) 1 (by decide +kernel) ?_ (fun w' hw' => Or.inl ?_) (fun K hK => ?_) | refine mixsq_yes rfl (by first | rfl | kernel_rfl) 2 (by decide +kernel) ?_ (fun w' hw' => Or.inl ?_) (fun K hK => ?_) | refine mixsq_yes rfl (by first | rfl | kernel_rfl) 3 (by decide +kernel) ?_ (fun w' hw' => Or.inl ?_) (fun K hK => ?_)); rotate_left; (focus (go_simp; rfl)); go_simp; refine hK _ ?_; clear hK K
            refine mixsl_yes rfl (by first | rfl | kernel_rfl) (fun K hK => ?_)
            go_simp
            refine (Bytes_calls w10 s es (hS8.out.below b10) (by have := hlen.out; omega) hsh.out).mono ?_
            rintro e w11 ⟨r2, rfl, ho11, hB11, _⟩
            have b11 : Below w8.heap.size w8 w11 := b10.trans (hB11.mono b10.size)
            have rr2 := Rd.of_own ho11
            have rr3 := rr1.below hB11
            refine hK (fun W => Below w8.heap.size w8 W ∧ Rd W r2 (bvs (dbytes es))) _ _ (fun _ => ⟨⟨b11, rr2⟩, ext_all (ext_all (fun _ => b11) b11) ⟨b11, rr3⟩⟩) ?_
            clear hK K
            (refine mixsq_yes rfl (by first | rfl | kernel_rfl) 3 (by decide +kernel) ?_ (fun w' hw' => Or.inl ?_) (fun K hK => ?_)); rotate_left; (focus (have hw2 : Below w8.heap.size w8 w' ∧ Rd w' r2 (bvs (dbytes es)) := hw'; have s1 := run_str (P := Try.prog) w' 30 9 5 _ _ Try.underlying30 Try.underlying5 Try.underlying9 hw2.2; unfold str at s1; go_simp; rfl)); go_simp; refine hK _ ?_; clear hK K
            (first | refine mixsq_yes rfl (by first | rfl | kernel_rfl) 0 (by decide +kernel) ?_ (fun w' hw' => Or.inl ?_) (fun K hK => ?_) | refine mixsq_yes rfl (by first | rfl | kernel_rfl) 1 (by decide +kernel) ?_ (fun w' hw' => Or.inl ?_) (fun K hK => ?_) | refine mixsq_yes rfl (by first | rfl | kernel_rfl) 2 (by decide +kernel) ?_ (fun w' hw' => Or.inl ?_) (fun K hK => ?_) | refine mixsq_yes rfl (by first | rfl | kernel_rfl) 3 (by decide +kernel) ?_ (fun w' hw' => Or.inl ?_) (fun K hK => ?_)); rotate_left; (focus (go_simp; rfl)); go_simp; refine hK _ ?_; clear hK K
            iterate 2 ((first | refine mixsq rfl rfl 0 (by decide +kernel) ?_ (fun w' hw' => Or.inl ?_) (fun K hK => ?_) | refine mixsq rfl rfl 1 (by decide +kernel) ?_ (fun w' hw' => Or.inl ?_) (fun K hK => ?_) | refine mixsq rfl rfl 2 (by decide +kernel) ?_ (fun w' hw' => Or.inl ?_) (fun K hK => ?_) | refine mixsq rfl rfl 3 (by decide +kernel) ?_ (fun w' hw' => Or.inl ?_) (fun K hK => ?_)); rotate_left; (focus (go_simp; rfl)); go_simp; refine hK _ ?_; clear hK K)
            refine mixs_nil ?_
            have hBe := hB8'.out.trans (b11.mono hB8'.out.size)
            clear hB8' hR8 hS8 hlen hsh
            go_wp2
            go_ret
            exact ⟨rfl, hBe⟩
          · obtain rfl := hno rfl
            clear hno
            go_wp2_with fail
            refine wp_mixs (fun W => Below w8.heap.size w8 W) [13, 23, 26] (by kernel_rfl) (by kernel_rfl) (by kernel_rfl) (by decide) ((Below.refl _ _).drew) ?_
            iterate 5 ((first | refine mixsq rfl rfl 0 (by decide +kernel) ?_ (fun w' hw' => Or.inl ?_) (fun K hK => ?_) | refine mixsq rfl rfl 1 (by decide +kernel) ?_ (fun w' hw' => Or.inl ?_) (fun K hK => ?_) | refine mixsq rfl rfl 2 (by decide +kernel) ?_ (fun w' hw' => Or.inl ?_) (fun K hK => ?_) | refine mixsq rfl rfl 3 (by decide +kernel) ?_ (fun w' hw' => Or.inl ?_) (fun K hK => ?_)); rotate_left; (focus (go_simp; rfl)); go_simp; refine hK _ ?_; clear hK K)
            (first | refine mixsq_yes rfl (by first | rfl | kernel_rfl) 0 (by decide +kernel) ?_ (fun w' hw' => Or.inl ?_) (fun K hK => ?_) | refine mixsq_yes rfl (by first | rfl | kernel_rfl) 1 (by decide +kernel) ?_ (fun w' hw' => Or.inl ?_) (fun K hK => ?_) | refine mixsq_yes rfl (by first | rfl | kernel_rfl) 2 (by decide +kernel) ?_ (fun w' hw' => Or.inl ?_) (fun K hK => ?_) | refine mixsq_yes rfl (by first | rfl | kernel_rfl) 3 (by decide +kernel) ?_ (fun w' hw' => Or.inl ?_) (fun K hK => ?_)); rotate_left; (focus (go_simp; rfl)); go_simp; refine hK _ ?_; clear hK K
            iterate 2 ((first | refine mixsq rfl rfl 0 (by decide +kernel) ?_ (fun w' hw' => Or.inl ?_) (fun K hK => ?_) | refine mixsq rfl rfl 1 (by decide +kernel) ?_ (fun w' hw' => Or.inl ?_) (fun K hK => ?_) | refine mixsq rfl rfl 2 (by decide +kernel) ?_ (fun w' hw' => Or.inl ?_) (fun K hK => ?_) | refine mixsq rfl rfl 3 (by decide +kernel) ?_ (fun w' hw' => Or.inl ?_) (fun K hK => ?_)); rotate_left; (focus (go_simp; rfl)); go_simp; refine hK _ ?_; clear hK K)
            iterate 3 ((first | refine mixsq_yes rfl (by first | rfl | kernel_rfl) 0 (by decide +kernel) ?_ (fun w' hw' => Or.inl ?_) (fun K hK => ?_) | refine mixsq_yes rfl (by first | rfl | kernel_rfl) 1 (by decide +kernel) ?_ (fun w' hw' => Or.inl ?_) (fun K hK => ?_) | refine mixsq_yes rfl (by first | rfl | kernel_rfl) 2 (by decide +kernel) ?_ (fun w' hw' => Or.inl ?_) (fun K hK => ?_) | refine mixsq_yes rfl (by first | rfl | kernel_rfl) 3 (by decide +kernel) ?_ (fun w' hw' => Or.inl ?_) (fun K hK => ?_)); rotate_left; (focus (go_simp; rfl)); go_simp; refine hK _ ?_; clear hK K)
            iterate 2 ((first | refine mixsq_yes rfl (by first | rfl | kernel_rfl) 0 (by decide +kernel) ?_ (fun w' hw' => Or.inl ?_) (fun K hK => ?_) | refine mixsq_yes rfl (by first | rfl | kernel_rfl) 1 (by decide +kernel) ?_ (fun w' hw' => Or.inl ?_) (fun K hK => ?_) | refine mixsq_yes rfl (by first | rfl | kernel_rfl) 2 (by decide +kernel) ?_ (fun w' hw' => Or.inl ?_) (fun K hK => ?_) | refine mixsq_yes rfl (by first | rfl | kernel_rfl) 3 (by decide +kernel) ?_ (fun w' hw' => Or.inl ?_) (fun K hK => ?_)); rotate_left; (focus (go_simp; rfl)); go_simp; refine hK _ ?_; clear hK K)
            refine mixsl_yes rfl (by first | rfl | kernel_rfl) (fun K hK => ?_)
            go_simp
            refine (name_calls w8.drew K0 (by omega)).mono ?_
            rintro e w9 ⟨rfl, hB9⟩
            have b9 : Below w8.heap.size w8 w9 := ⟨hB9.os, hB9.tape, hB9.output, hB9.size, hB9.block⟩
            refine hK (fun W => Below w8.heap.size w8 W) _ _ (fun _ => ⟨b9, fun _ => b9⟩) ?_
            clear hK K
            iterate 2 ((first | refine mixsq_yes rfl (by first | rfl | kernel_rfl) 0 (by decide +kernel) ?_ (fun w' hw' => Or.inl ?_) (fun K hK => ?_) | refine mixsq_yes rfl (by first | rfl | kernel_rfl) 1 (by decide +kernel) ?_ (fun w' hw' => Or.inl ?_) (fun K hK => ?_) | refine mixsq_yes rfl (by first | rfl | kernel_rfl) 2 (by decide +kernel) ?_ (fun w' hw' => Or.inl ?_) (fun K hK => ?_) | refine mixsq_yes rfl (by first | rfl | kernel_rfl) 3 (by decide +kernel) ?_ (fun w' hw' => Or.inl ?_) (fun K hK => ?_)); rotate_left; (focus (go_simp; rfl)); go_simp; refine hK _ ?_; clear hK K)
            iterate 2 ((first | refine mixsq rfl rfl 0 (by decide +kernel) ?_ (fun w' hw' => Or.inl ?_) (fun K hK => ?_) | refine mixsq rfl rfl 1 (by decide +kernel) ?_ (fun w' hw' => Or.inl ?_) (fun K hK => ?_) | refine mixsq rfl rfl 2 (by decide +kernel) ?_ (fun w' hw' => Or.inl ?_) (fun K hK => ?_) | refine mixsq rfl rfl 3 (by decide +kernel) ?_ (fun w' hw' => Or.inl ?_) (fun K hK => ?_)); rotate_left; (focus (go_simp; rfl)); go_simp; refine hK _ ?_; clear hK K)
            iterate 2 ((first | refine mixsq_yes rfl (by first | rfl | kernel_rfl) 0 (by decide +kernel) ?_ (fun w' hw' => Or.inl ?_) (fun K hK => ?_) | refine mixsq_yes rfl (by first | rfl | kernel_rfl) 1 (by decide +kernel) ?_ (fun w' hw' => Or.inl ?_) (fun K hK => ?_) | refine mixsq_yes rfl (by first | rfl | kernel_rfl) 2 (by decide +kernel) ?_ (fun w' hw' => Or.inl ?_) (fun K hK => ?_) | refine mixsq_yes rfl (by first | rfl | kernel_rfl) 3 (by decide +kernel) ?_ (fun w' hw' => Or.inl ?_) (fun K hK => ?_)); rotate_left; (focus (go_simp; rfl)); go_simp; refine hK _ ?_; clear hK K)
            iterate 2 ((first | refine mixsq rfl rfl 0 (by decide +kernel) ?_ (fun w' hw' => Or.inl ?_) (fun K hK => ?_) | refine mixsq rfl rfl 1 (by decide +kernel) ?_ (fun w' hw' => Or.inl ?_) (fun K hK => ?_) | refine mixsq rfl rfl 2 (by decide +kernel) ?_ (fun w' hw' => Or.inl ?_) (fun K hK => ?_) | refine mixsq rfl rfl 3 (by decide +kernel) ?_ (fun w' hw' => Or.inl ?_) (fun K hK => ?_)); rotate_left; (focus (go_simp; rfl)); go_simp; refine hK _ ?_; clear hK K)
            (first | refine mixsq_yes rfl (by first | rfl | kernel_rfl) 0 (by decide +kernel) ?_ (fun w' hw' => Or.inl ?_) (fun K hK => ?_) | refine mixsq_yes rfl (by first | rfl | kernel_rfl) 1 (by decide +kernel) ?_ (fun w' hw' => Or.inl ?_) (fun K hK => ?_) | refine mixsq_yes rfl (by first | rfl | kernel_rfl) 2 (by decide +kernel) ?_ (fun w' hw' => Or.inl ?_) (fun K hK => ?_) | refine mixsq_yes rfl (by first | rfl | kernel_rfl) 3 (by decide +kernel) ?_ (fun w' hw' => Or.inl ?_) (fun K hK => ?_)); rotate_left; (focus (go_simp; rfl)); go_simp; refine hK _ ?_; clear hK K
            refine mixsl_yes rfl (by first | rfl | kernel_rfl) (fun K hK => ?_)
            go_simp
            refine (Bytes_calls w9 v8 es (hR8.out.below b9) (by have := hlen.out; omega) hsh.out).mono ?_
            rintro e w10 ⟨r1, rfl, ho10, hB10, _⟩
            have b10 : Below w8.heap.size w8 w10 := b9.trans (hB10.mono b9.size)
            have rr1 := Rd.of_own ho10
            refine hK (fun W => Below w8.heap.size w8 W ∧ Rd W r1 (bvs (dbytes es))) _ _ (fun _ => ⟨⟨b10, rr1⟩, ext_all (fun _ => b10) b10⟩) ?_
            clear hK K
            (refine mixsq_yes rfl (by first | rfl | kernel_rfl) 2 (by decide +kernel) ?_ (fun w' hw' => Or.inl ?_) (fun K hK => ?_)); rotate_left; (focus (have hw2 : Below w8.heap.size w8 w' ∧ Rd w' r1 (bvs (dbytes es)) := hw'; have s1 := run_str (P := Try.prog) w' 30 9 5 _ _ Try.underlying30 Try.underlying5 Try.underlying9 hw2.2; unfold str at s1; go_simp; rfl)); go_simp; refine hK _ ?_; clear hK K
            (first | refine mixsq_yes rfl (by first | rfl | kernel_rfl) 0 (by decide +kernel) ?_ (fun w' hw' => Or.inl ?_) (fun K hK => ?_) | refine mixsq_yes rfl (by first | rfl | kernel_rfl) 1 (by decide +kernel) ?_ (fun w' hw' => Or.inl ?_) (fun K hK => ?_) | refine mixsq_yes rfl (by first | rfl | kernel_rfl) 2 (by decide +kernel) ?_ (fun w' hw' => Or.inl ?_) (fun K hK => ?_) | refine mixsq_yes rfl (by first | rfl | kernel_rfl) 3 (by decide +kernel) ?_ (fun w' hw' => Or.inl ?_) (fun K hK => ?_)); rotate_left; (focus (go_simp; rfl)); go_simp; refine hK _ ?_; clear hK K
            refine mixsl_yes rfl (by first | rfl | kernel_rfl) (fun K hK => ?_)
            go_simp
            refine (Bytes_calls w10 s es (hS8.out.below b10) (by have := hlen.out; omega) hsh.out).mono ?_
            rintro e w11 ⟨r2, rfl, ho11, hB11, _⟩
            have b11 : Below w8.heap.size w8 w11 := b10.trans (hB11.mono b10.size)
            have rr2 := Rd.of_own ho11
            have rr3 := rr1.below hB11
            refine hK (fun W => Below w8.heap.size w8 W ∧ Rd W r2 (bvs (dbytes es))) _ _ (fun _ => ⟨⟨b11, rr2⟩, ext_all (ext_all (fun _ => b11) b11) ⟨b11, rr3⟩⟩) ?_
            clear hK K
            (refine mixsq_yes rfl (by first | rfl | kernel_rfl) 3 (by decide +kernel) ?_ (fun w' hw' => Or.inl ?_) (fun K hK => ?_)); rotate_left; (focus (have hw2 : Below w8.heap.size w8 w' ∧ Rd w' r2 (bvs (dbytes es)) := hw'; have s1 := run_str (P := Try.prog) w' 30 9 5 _ _ Try.underlying30 Try.underlying5 Try.underlying9 hw2.2; unfold str at s1; go_simp; rfl)); go_simp; refine hK _ ?_; clear hK K
            (first | refine mixsq_yes rfl (by first | rfl | kernel_rfl) 0 (by decide +kernel) ?_ (fun w' hw' => Or.inl ?_) (fun K hK => ?_) | refine mixsq_yes rfl (by first | rfl | kernel_rfl) 1 (by decide +kernel) ?_ (fun w' hw' => Or.inl ?_) (fun K hK => ?_) | refine mixsq_yes rfl (by first | rfl | kernel_rfl) 2 (by decide +kernel) ?_ (fun w' hw' => Or.inl ?_) (fun K hK => ?_) | refine mixsq_yes rfl (by first | rfl | kernel_rfl) 3 (by decide +kernel) ?_ (fun w' hw' => Or.inl ?_) (fun K hK => ?_)); rotate_left; (focus (go_simp; rfl)); go_simp; refine hK _ ?_; clear hK K
            iterate 2 ((first | refine mixsq rfl rfl 0 (by decide +kernel) ?_ (fun w' hw' => Or.inl ?_) (fun K hK => ?_) | refine mixsq rfl rfl 1 (by decide +kernel) ?_ (fun w' hw' => Or.inl ?_) (fun K hK => ?_) | refine mixsq rfl rfl 2 (by decide +kernel) ?_ (fun w' hw' => Or.inl ?_) (fun K hK => ?_) | refine mixsq rfl rfl 3 (by decide +kernel) ?_ (fun w' hw' => Or.inl ?_) (fun K hK => ?_)); rotate_left; (focus (go_simp; rfl)); go_simp; refine hK _ ?_; clear hK K)
            refine mixs_nil ?_
            have hBe := hB8'.out.trans (b11.mono hB8'.out.size)
            clear hB8' hR8 hS8 hlen hsh
            go_wp2
            go_ret
            exact ⟨rfl, hBe⟩
end Go.Proofs.Ytoloogpglnonaaa
