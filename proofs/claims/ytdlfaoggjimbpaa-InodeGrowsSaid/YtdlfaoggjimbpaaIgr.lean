/- InodeGrows. -/
import Derived.Test.YtdlfaoggjimbpaaIkn
namespace Go.Proofs.Ytdlfaoggjimbpaa
open Go.RowKit
theorem blocks512 (i : Int) (h0 : 0 ≤ i) (h1 : i ≤ 16520) : blocksP (i * 512) = i := by
  unfold blocksP
  rw [if_neg (by omega)]
  omega
theorem inner_grows (i : Int) (h0 : 0 ≤ i) : innerP i ≤ innerP (i + 1) ∧ innerP (i + 1) ≤ innerP i + 2 := by
  unfold innerP
  (repeat' split) <;> omega
theorem inner_mono (i k : Int) (h0 : 0 ≤ i) (h : i ≤ k) : innerP i ≤ innerP k := by
  unfold innerP
  (repeat' split) <;> omega
theorem where_inj (i k : Int) (h0 : 0 ≤ i) (h1 : i < 16520) (g0 : 0 ≤ k) (g1 : k < 16520) (hl : (whereP i).1 = (whereP k).1) (ha : (whereP i).2.1 = (whereP k).2.1) (hb : (whereP i).2.2.1 = (whereP k).2.2.1) : i = k := by
  have q : ∀ j : Int, 0 ≤ j → j < 16520 → (j < 8 ∧ whereP j = (0, j, 0, 0)) ∨ (8 ≤ j ∧ j < 136 ∧ whereP j = (1, j - 8, 0, 0)) ∨ (136 ≤ j ∧ whereP j = (2, (j - 136) / 128, (j - 136) % 128, 0)) := by
    intro j j0 j1
    unfold whereP
    rw [if_neg (by omega)]
    split
    · exact .inl ⟨by assumption, rfl⟩
    · split
      · exact .inr (.inl ⟨by omega, by assumption, rfl⟩)
      · exact .inr (.inr ⟨by omega, rfl⟩)
  rcases q i h0 h1 with ⟨_, e⟩ | ⟨_, _, e⟩ | ⟨_, e⟩ <;> rcases q k g0 g1 with ⟨_, f⟩ | ⟨_, _, f⟩ | ⟨_, f⟩ <;> rw [e, f] at hl ha hb <;> simp only at hl ha hb <;> omega
set_option maxRecDepth 10000 in
set_option maxHeartbeats 4000000 in
theorem InodeGrows_calls (w : World) {i k : Int} (ww0 : (Lit.int .i64 i).wf = true) (ww1 : (Lit.int .i64 k).wf = true) :
    Calls Try.prog 11 #[.int .i64 i, .int .i64 k] w fun e w' => e = .returned (.bool true) ∧ Below w.heap.size w w' := by
  obtain ⟨n1, n2⟩ := wf64 ww0
  obtain ⟨n3, n4⟩ := wf64 ww1
  have h7 := Lib.hid (fun W => Most_calls W)
  by_cases hin : 0 ≤ i ∧ 0 ≤ k ∧ i < 16520 ∧ k < 16520
  · obtain ⟨i0, k0, i1, k1⟩ := hin
    have hW := fun W => Where_calls W i n1 n2
    have hR := fun W => Where_calls W k n3 n4
    have hA1 := fun W => All_calls W ((i + 1) * 512) (by omega) (by omega)
    have hA2 := fun W => All_calls W (i * 512) (by omega) (by omega)
    have hA3 := fun W => All_calls W (k * 512) (by omega) (by omega)
    have hB := fun W => Blocks_calls W (i * 512) (by omega) (by omega)
    have hI := fun W => Inner_calls W (i * 512) (by omega) (by omega)
    unfold allN at hA1 hA2 hA3
    rw [blocks512 _ (by omega) (by omega)] at hA1 hA2 hA3 hB hI
    have g1 := inner_grows i i0
    have g4 := inner_grows k k0
    obtain ⟨j0, j1⟩ := innerP_in i (by omega)
    obtain ⟨j2, j3⟩ := innerP_in (i + 1) (by omega)
    obtain ⟨j4, j5⟩ := innerP_in k (by omega)
    rcases (show i = k ∨ i < k ∨ k < i by omega) with hik | hik | hik
    · subst hik
      generalize innerP (i + 1) = yi1 at *
      generalize innerP i = yi at *
      generalize whereP i = o1 at *
      obtain ⟨l, a, b, er⟩ := o1
      have m1 : 1 ≤ i + 1 + yi1 - (i + yi) := by omega
      have m2 : i + 1 + yi1 - (i + yi) ≤ 3 := by omega
      clear g1 g4
      have hW := Lib.hid hW; have hR := Lib.hid hR; have hA1 := Lib.hid hA1; have hA2 := Lib.hid hA2; have hA3 := Lib.hid hA3; have hB := Lib.hid hB; have hI := Lib.hid hI
      go_enter Try.func11, Try.ntmps11
      go_wp2_with fail
      refine (iknown_calls w).mono ?_
      rintro e w1 ⟨rfl, hB1⟩
      go_wp2_with fail
      refine (h7.out _).mono ?_
      rintro e w1 ⟨rfl, rfl⟩
      go_wp2_with fail
      refine (hW.out _).mono ?_
      rintro e w2 ⟨rfl, hB2⟩
      have hB2 := hB1.trans (hB2.mono hB1.size)
      simp only [placeV]
      go_wp2_with fail
      refine (hR.out _).mono ?_
      rintro e w3 ⟨rfl, hB3⟩
      have hB3' : Below w.heap.size w w3 := by
        have h8 : Below w.heap.size w (w2.alloc (.cells #[.int .i64 l, .int .i64 a, .int .i64 b] 71)) := hB2.alloc hB2.size _
        exact h8.trans (hB3.mono h8.size)
      have hb : Blk (w3.alloc (.cells #[.int .i64 l, .int .i64 a, .int .i64 b] 71)) w2.heap.size 71 #[.int .i64 l, .int .i64 a, .int .i64 b] := ((Blk.new w2 71 #[.int .i64 l, .int .i64 a, .int .i64 b]).chg (Chg.of_below hB3) (S := fun _ => False) id).alloc _
      have hBe := Lib.hid (hB3'.alloc hB3'.size (.cells #[.int .i64 l, .int .i64 a, .int .i64 b] 71))
      have c0 := hb.cell 0
      have c1 := hb.cell 1
      have c2 := hb.cell 2
      simp only [placeV]
      clear hb hB3 hB3' hB2 hB1 hW hR
      go_wp2_with fail
      refine (hA1.out _).mono ?_
      rintro e w4 ⟨rfl, rfl⟩
      go_wp2_with fail
      refine (hA2.out _).mono ?_
      rintro e w4 ⟨rfl, rfl⟩
      go_wp2_with fail
      refine (hA2.out _).mono ?_
      rintro e w4 ⟨rfl, rfl⟩
      go_wp2_with fail
      refine (hA3.out _).mono ?_
      rintro e w4 ⟨rfl, rfl⟩
      go_wp2_with fail
      refine (hA2.out _).mono ?_
      rintro e w4 ⟨rfl, rfl⟩
      go_wp2_with fail
      refine (hB.out _).mono ?_
      rintro e w4 ⟨rfl, rfl⟩
      go_wp2_with fail
      refine (hI.out _).mono ?_
      rintro e w4 ⟨rfl, rfl⟩
      go_wp2
      go_ret
      exact ⟨rfl, hBe.out⟩
    · have g2 := inner_mono i k i0 (by omega)
      have hF : i + innerP i ≤ k + innerP k := by omega
      have hik2 : i ≤ k := by omega
      have hne : ¬ (i = k) := by omega
      have hne2 : (i == k) = false := by simpa using hne
      have hj := where_inj i k i0 i1 k0 k1
      generalize innerP (i + 1) = yi1 at *
      generalize innerP i = yi at *
      generalize innerP k = yk at *
      generalize whereP i = o1 at *
      generalize whereP k = o2 at *
      obtain ⟨l, a, b, er⟩ := o1
      obtain ⟨l2, a2, b2, er2⟩ := o2
      simp only at hj
      have hj := Lib.hid hj
      have m1 : 1 ≤ i + 1 + yi1 - (i + yi) := by omega
      have m2 : i + 1 + yi1 - (i + yi) ≤ 3 := by omega
      clear g1 g4
      have hW := Lib.hid hW; have hR := Lib.hid hR; have hA1 := Lib.hid hA1; have hA2 := Lib.hid hA2; have hA3 := Lib.hid hA3; have hB := Lib.hid hB; have hI := Lib.hid hI
      go_enter Try.func11, Try.ntmps11
      go_wp2_with fail
      refine (iknown_calls w).mono ?_
      rintro e w1 ⟨rfl, hB1⟩
      go_wp2_with fail
      refine (h7.out _).mono ?_
      rintro e w1 ⟨rfl, rfl⟩
      go_wp2_with fail
      refine (hW.out _).mono ?_
      rintro e w2 ⟨rfl, hB2⟩
      have hB2 := hB1.trans (hB2.mono hB1.size)
      simp only [placeV]
      go_wp2_with fail
      refine (hR.out _).mono ?_
      rintro e w3 ⟨rfl, hB3⟩
      have hB3' : Below w.heap.size w w3 := by
        have h8 : Below w.heap.size w (w2.alloc (.cells #[.int .i64 l, .int .i64 a, .int .i64 b] 71)) := hB2.alloc hB2.size _
        exact h8.trans (hB3.mono h8.size)
      have hb : Blk (w3.alloc (.cells #[.int .i64 l2, .int .i64 a2, .int .i64 b2] 71)) w2.heap.size 71 #[.int .i64 l, .int .i64 a, .int .i64 b] := ((Blk.new w2 71 #[.int .i64 l, .int .i64 a, .int .i64 b]).chg (Chg.of_below hB3) (S := fun _ => False) id).alloc _
      have hBe := Lib.hid (hB3'.alloc hB3'.size (.cells #[.int .i64 l2, .int .i64 a2, .int .i64 b2] 71))
      have c0 := hb.cell 0
      have c1 := hb.cell 1
      have c2 := hb.cell 2
      simp only [placeV]
      clear hb hB3 hB3' hB2 hB1 hW hR
      go_wp2_with fail
      refine (hA1.out _).mono ?_
      rintro e w4 ⟨rfl, rfl⟩
      go_wp2_with fail
      refine (hA2.out _).mono ?_
      rintro e w4 ⟨rfl, rfl⟩
      go_wp2_with fail
      all_goals
        first
        | (exfalso; have := hj.out; omega)
        | skip
      all_goals
        refine (hA2.out _).mono ?_
        rintro e w4 ⟨rfl, rfl⟩
        go_wp2_with fail
        refine (hA3.out _).mono ?_
        rintro e w4 ⟨rfl, rfl⟩
        go_wp2_with fail
        refine (hA2.out _).mono ?_
        rintro e w4 ⟨rfl, rfl⟩
        go_wp2_with fail
        refine (hB.out _).mono ?_
        rintro e w4 ⟨rfl, rfl⟩
        go_wp2_with fail
        refine (hI.out _).mono ?_
        rintro e w4 ⟨rfl, rfl⟩
        go_wp2
        go_ret
        exact ⟨rfl, hBe.out⟩
    · have g2 := inner_mono k i k0 (by omega)
      have hF : ¬ (i + innerP i ≤ k + innerP k) := by omega
      have hik2 : ¬ (i ≤ k) := by omega
      have hne : ¬ (i = k) := by omega
      have hne2 : (i == k) = false := by simpa using hne
      have hj := where_inj i k i0 i1 k0 k1
      generalize innerP (i + 1) = yi1 at *
      generalize innerP i = yi at *
      generalize innerP k = yk at *
      generalize whereP i = o1 at *
      generalize whereP k = o2 at *
      obtain ⟨l, a, b, er⟩ := o1
      obtain ⟨l2, a2, b2, er2⟩ := o2
      simp only at hj
      have hj := Lib.hid hj
      have m1 : 1 ≤ i + 1 + yi1 - (i + yi) := by omega
      have m2 : i + 1 + yi1 - (i + yi) ≤ 3 := by omega
      clear g1 g4
      have hW := Lib.hid hW; have hR := Lib.hid hR; have hA1 := Lib.hid hA1; have hA2 := Lib.hid hA2; have hA3 := Lib.hid hA3; have hB := Lib.hid hB; have hI := Lib.hid hI
      go_enter Try.func11, Try.ntmps11
      go_wp2_with fail
      refine (iknown_calls w).mono ?_
      rintro e w1 ⟨rfl, hB1⟩
      go_wp2_with fail
      refine (h7.out _).mono ?_
      rintro e w1 ⟨rfl, rfl⟩
      go_wp2_with fail
      refine (hW.out _).mono ?_
      rintro e w2 ⟨rfl, hB2⟩
      have hB2 := hB1.trans (hB2.mono hB1.size)
      simp only [placeV]
      go_wp2_with fail
      refine (hR.out _).mono ?_
      rintro e w3 ⟨rfl, hB3⟩
      have hB3' : Below w.heap.size w w3 := by
        have h8 : Below w.heap.size w (w2.alloc (.cells #[.int .i64 l, .int .i64 a, .int .i64 b] 71)) := hB2.alloc hB2.size _
        exact h8.trans (hB3.mono h8.size)
      have hb : Blk (w3.alloc (.cells #[.int .i64 l2, .int .i64 a2, .int .i64 b2] 71)) w2.heap.size 71 #[.int .i64 l, .int .i64 a, .int .i64 b] := ((Blk.new w2 71 #[.int .i64 l, .int .i64 a, .int .i64 b]).chg (Chg.of_below hB3) (S := fun _ => False) id).alloc _
      have hBe := Lib.hid (hB3'.alloc hB3'.size (.cells #[.int .i64 l2, .int .i64 a2, .int .i64 b2] 71))
      have c0 := hb.cell 0
      have c1 := hb.cell 1
      have c2 := hb.cell 2
      simp only [placeV]
      clear hb hB3 hB3' hB2 hB1 hW hR
      go_wp2_with fail
      refine (hA1.out _).mono ?_
      rintro e w4 ⟨rfl, rfl⟩
      go_wp2_with fail
      refine (hA2.out _).mono ?_
      rintro e w4 ⟨rfl, rfl⟩
      go_wp2_with fail
      all_goals
        first
        | (exfalso; have := hj.out; omega)
        | skip
      all_goals
        refine (hA2.out _).mono ?_
        rintro e w4 ⟨rfl, rfl⟩
        go_wp2_with fail
        refine (hA3.out _).mono ?_
        rintro e w4 ⟨rfl, rfl⟩
        go_wp2_with fail
        refine (hA2.out _).mono ?_
        rintro e w4 ⟨rfl, rfl⟩
        go_wp2_with fail
        refine (hB.out _).mono ?_
        rintro e w4 ⟨rfl, rfl⟩
        go_wp2_with fail
        refine (hI.out _).mono ?_
        rintro e w4 ⟨rfl, rfl⟩
        go_wp2
        go_ret
        exact ⟨rfl, hBe.out⟩
  · rcases (show i < 0 ∨ (0 ≤ i ∧ k < 0) ∨ (0 ≤ i ∧ 0 ≤ k ∧ 16520 ≤ i) ∨ (0 ≤ i ∧ 0 ≤ k ∧ i < 16520 ∧ 16520 ≤ k) by omega) with c1 | ⟨c1, c2⟩ | ⟨c1, c2, c3⟩ | ⟨c1, c2, c3, c4⟩
    all_goals
      clear hin
      go_enter Try.func11, Try.ntmps11
      go_wp2_with fail
      refine (iknown_calls w).mono ?_
      rintro e w1 ⟨rfl, hB1⟩
      go_wp2_with fail
      refine (h7.out _).mono ?_
      rintro e w1 ⟨rfl, rfl⟩
      go_wp2
      go_ret
      exact ⟨rfl, hB1⟩
end Go.Proofs.Ytdlfaoggjimbpaa
