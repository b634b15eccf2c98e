/- AllocPlays, walked. Printed by genay.py. -/
import Derived.Test.YtefbmbfhhhjgkaaPl
namespace Go.Proofs.Ytefbmbfhhhjgkaa
open Go.RowKit
theorem own_empty (w : World) (t : TypeId) : (w.alloc (.cells #[] t)).ownsRow 0 t 1 (.slice (some ⟨w.heap.size, 0, none⟩) 0 0) 0 [] :=
  ⟨rfl, .inr ⟨w.heap.size, 0, #[], rfl, Nat.zero_le _, Blk.new w t #[], Nat.le_refl _, by unfold maxLen; omega, rfl, rfl⟩⟩
def bvl (n : Nat) (T : Nat → Bool) : List Value := (List.range n).map fun i => .bool (T i)
theorem bvl_len (n : Nat) (T : Nat → Bool) : (bvl n T).length = n := by unfold bvl; simp
theorem bvl_one (n : Nat) (T : Nat → Bool) : ∀ u ∈ bvl n T, u.oneCell' = true := by
  intro u hu
  obtain ⟨a, _, rfl⟩ := List.mem_map.1 hu
  rfl
theorem RB.of_own {w : World} {v : Value} {n : Nat} {T : Nat → Bool} (h : w.ownsRow 0 4 1 v n (bvl n T)) (hn : 1 ≤ n) : ∃ b c, v = .slice (some ⟨b, 0, none⟩) n c ∧ n ≤ c ∧ RB w b n T := by
  rcases h.2 with ⟨_, h0⟩ | ⟨g, cap, cur, rfl, _, hg, hc, _, _, ht⟩
  · omega
  · refine ⟨g, cap, rfl, hc, cur, hg, fun i hi => ?_⟩
    have e : (cur.toList.take (n * 1))[i]? = some (.bool (T i)) := by
      rw [ht]
      unfold bvl
      rw [List.getElem?_map, List.getElem?_range hi]
      rfl
    rw [Nat.mul_one, List.getElem?_take_of_lt hi] at e
    rw [← Array.getElem?_toList]
    exact e
/-- A row of bools, copied onto a new one. -/
theorem app_done {w w9 : World} {ob : Obj} {v9 : Value} {n : Nat} {T : Nat → Bool} (hown : w9.ownsRow 0 4 1 v9 (0 + (bvl n T).length) ([] ++ bvl n T)) (hg : (w.alloc ob).grownBy w9 (some w.heap.size)) (hat : v9.ownBlock = some w.heap.size ∨ v9.ownBlock = some (w.alloc ob).heap.size) (hn : 1 ≤ n) :
    ∃ b c, v9 = .slice (some ⟨b, 0, none⟩) n c ∧ n ≤ c ∧ RB w9 b n T ∧ Below w.heap.size w w9 ∧ w.heap.size ≤ b ∧ b < w9.heap.size := by
  have hown : w9.ownsRow 0 4 1 v9 n (bvl n T) := by
    rw [Nat.zero_add, bvl_len, List.nil_append] at hown
    exact hown
  obtain ⟨b, c, rfl, h1, h2⟩ := RB.of_own hown hn
  refine ⟨b, c, rfl, h1, h2, ((Below.refl _ _).alloc (Nat.le_refl _) ob).grown hg (by rw [World.size_alloc]; omega) (fun j hj => by injection hj with hj; omega), ?_, ?_⟩
  · rw [World.size_alloc] at hat
    rcases hat with e | e
    · have : b = w.heap.size := Option.some.inj e
      omega
    · have : b = w.heap.size + 1 := Option.some.inj e
      omega
  · obtain ⟨cs, q, _⟩ := h2
    exact q.lt
theorem right_ok {m0 f n0 : Int} (h : rightP m0 f n0 35 = true) : ∃ m n : Nat, m0 = (m : Int) ∧ n0 = (n : Int) ∧ PoolOk 35 m f n := by
  obtain ⟨h1, h2, h3, h4, h5, h6⟩ := of_decide_eq_true h
  unfold mapsP at h6
  rw [if_neg (by omega)] at h6
  exact ⟨m0.toNat, n0.toNat, by omega, by omega, ⟨⟨h2, h3⟩, by omega, by omega⟩⟩
theorem rRight_calls (w : World) {gr : Nat} {m f n b : Int} {v : Value} (hb : Blk w gr 41 #[.int .i64 m, .int .i64 f, .int .i64 n, v]) (hb4 : 4 ≤ b ∧ b ≤ 100000) :
    Calls Try.prog 15 #[.pointer (some ⟨gr, 0, none⟩), .int .i64 b] w (RightTo w (rightP m f n b)) := by
  unfold rightP
  by_cases h : 0 ≤ m ∧ 0 ≤ f ∧ f ≤ 1073741824 ∧ 1 ≤ n ∧ n ≤ 16384
  · have := rRight_in w hb hb4 h
    rwa [show decide (m ≤ b - mapsP n) = decide (0 ≤ m ∧ 0 ≤ f ∧ f ≤ 1073741824 ∧ 1 ≤ n ∧ n ≤ 16384 ∧ m ≤ b - mapsP n) from decide_eq_decide.2 ⟨fun q => ⟨h.1, h.2.1, h.2.2.1, h.2.2.2.1, h.2.2.2.2, q⟩, fun q => q.2.2.2.2.2⟩] at this
  · have := rRight_no (b := b) w hb h
    rwa [← show decide (0 ≤ m ∧ 0 ≤ f ∧ f ≤ 1073741824 ∧ 1 ≤ n ∧ n ≤ 16384 ∧ m ≤ b - mapsP n) = false from decide_eq_false fun q => h ⟨q.1, q.2.1, q.2.2.1, q.2.2.2.1, q.2.2.2.2.1⟩] at this
set_option maxRecDepth 100000 in
set_option maxHeartbeats 16000000 in
theorem AllocPlays_calls (w : World) {n : PoolV} {x1 : Value} {ys : List PAct} (nn0 : n.ok) (xx1 : RdP w x1 ys) (ll1 : ys.length ≤ 9223372036854775807) :
    Calls Try.prog 5 #[.agg n.cells, x1] w fun e w' => e = .returned (.bool true) ∧ Below w.heap.size w w' := by
  obtain ⟨xA, xc, rfl⟩ := xx1.shape
  have hx1 := Lib.hid xx1
  obtain ⟨m0, f, n0⟩ := n
  obtain ⟨o0, o1, o2⟩ := nn0
  have i0 : Hid (I64 m0) := Lib.hid (wf64K o0)
  have i1 : Hid (I64 f) := Lib.hid (wf64K o1)
  have i2 : Hid (I64 n0) := Lib.hid (wf64K o2)
  show Calls _ _ #[.agg #[.int .i64 m0, .int .i64 f, .int .i64 n0], _] w _
  obtain ⟨L, hLn⟩ : ∃ L, Hid (ys.length = L) := ⟨_, Lib.hid rfl⟩
  rw [hLn.out] at hx1 ll1 ⊢
  obtain ⟨w1, hw1⟩ : ∃ w1, w.alloc (.cells #[.int .i64 m0, .int .i64 f, .int .i64 n0] 29) = w1 := ⟨_, rfl⟩
  have hB1 : Hid (Below w.heap.size w w1) := by rw [← hw1]; exact Lib.hid ((Below.refl _ _).alloc (Nat.le_refl _) _)
  have hq1 : Hid (Blk w1 w.heap.size 29 #[.int .i64 m0, .int .i64 f, .int .i64 n0]) := by rw [← hw1]; exact Lib.hid (Blk.new _ _ _)
  clear o0 o1 o2 xx1
  go_enter Try.func5, Try.ntmps5
  go_wp2_with fail
  refine (known_calls w1).mono ?_
  rintro e w2 ⟨rfl, hb2⟩
  have hB2 := Lib.hid (hB1.out.trans (hb2.mono hB1.out.size))
  have hq2 := Lib.hid (blk_below hq1.out hb2)
  clear hw1 hb2 hq1 hB1
  by_cases h200 : (200 : Int) < (L : Int)
  · go_wp2
    go_ret
    exact ⟨rfl, hB2.out⟩
  have hMk := Lib.hid (made_calls w2 100 (by omega))
  go_wp2_with fail
  refine hMk.out.mono ?_
  rintro e w3 ⟨gl, g, gt, d, rfl, hL⟩
  have hq3 := blk_below hq2.out hL.bel
  have c0 : w3.cell? ⟨w.heap.size, 0, none⟩ = some (.int .i64 m0) := hq3.cell 0
  have c1 : w3.cell? ⟨w.heap.size, 1, none⟩ = some (.int .i64 f) := hq3.cell 1
  have c2 : w3.cell? ⟨w.heap.size, 2, none⟩ = some (.int .i64 n0) := hq3.cell 2
  obtain ⟨w4, hw4⟩ : ∃ w4, w3.alloc (.cells #[.int .i64 m0, .int .i64 f, .int .i64 n0, .slice none 0 0] 41) = w4 := ⟨_, rfl⟩
  have hb4 : Below w3.heap.size w3 w4 := by rw [← hw4]; exact (Below.refl _ _).alloc (Nat.le_refl _) _
  have hr4 : Blk w4 w3.heap.size 41 #[.int .i64 m0, .int .i64 f, .int .i64 n0, .slice none 0 0] := by rw [← hw4]; exact Blk.new _ _ _
  obtain ⟨gr, hgr⟩ : ∃ gr, w3.heap.size = gr := ⟨_, rfl⟩
  rw [hgr] at hr4
  have hgr0 : Hid (w2.heap.size ≤ gr) := Lib.hid (by rw [← hgr]; exact hL.bel.size)
  have hL4 := Lib.hid (hL.more hb4 (Y := fun k => k = gr) fun k hk => .inr ⟨by rw [hk, hgr]; exact Nat.le_refl _, by rw [hk]; exact hr4.lt⟩)
  have hq4 := Lib.hid (blk_below hq3 hb4)
  have hr4 := Lib.hid hr4
  have hB4 := Lib.hid (hB2.out.trans ((hL.bel.trans (hb4.mono hL.bel.size)).mono hB2.out.size))
  clear hMk hL hq3 hb4
  go_wp2_with fail
  clear hw4 c0 c1 c2 hgr
  have hN : Hid (65 < 100 ∧ 100 ≤ 16000) := Lib.hid (by omega)
  have hBk : Hid (∀ U, Below w4.heap.size w4 U → Calls Try.prog 14 #[.pointer (some ⟨gl, 0, none⟩)] U (Ans U (.int .i64 35))) := Lib.hid fun U hU => cBlocks (hL4.out.below hU).lc hN.out
  have hld := Lib.hid (fun (W : World) (h : Blk W w.heap.size 29 #[.int .i64 m0, .int .i64 f, .int .i64 n0]) => load_pool h)
  obtain ⟨K0, hK0⟩ : ∃ K0, Hid (mapsP n0 = K0) := ⟨_, Lib.hid rfl⟩
  have hMp := Lib.hid (fun W => Maps_calls W m0 f n0 i2.out)
  have hMr := Lib.hid (fun (W : World) (h : Blk W gr 41 #[.int .i64 m0, .int .i64 f, .int .i64 n0, .slice none 0 0]) => rMaps_calls W h i2.out)
  have hRt := Lib.hid (fun W => Right_calls W m0 f n0 35 i0.out i1.out i2.out (by omega))
  have hRr := Lib.hid (fun (W : World) (h : Blk W gr 41 #[.int .i64 m0, .int .i64 f, .int .i64 n0, .slice none 0 0]) => rRight_calls W h (b := 35) (by omega))
  rw [hK0.out] at hMp hMr
  cases hrb : rightP m0 f n0 35
  · rw [hrb] at hRt hRr
    replace hrb := Lib.hid hrb
    refine wp_mixs (fun U => Blk U w.heap.size 29 #[.int .i64 m0, .int .i64 f, .int .i64 n0]) [2, 3, 6, 7, 11, 13] (by kernel_rfl) (by kernel_rfl) (by kernel_rfl) (by decide) (show Blk w4.drew _ _ _ from hq4.out) ?_
    have hd4 : Below w4.heap.size w4 w4.drew := (Below.refl _ _).drew
    have hdr : Blk w4.drew gr 41 #[.int .i64 m0, .int .i64 f, .int .i64 n0, .slice none 0 0] := hr4.out
    have hdq : Blk w4.drew w.heap.size 29 #[.int .i64 m0, .int .i64 f, .int .i64 n0] := hq4.out
    (first | refine mixsq rfl rfl 0 (by decide +kernel) (.agg #[.int .i64 m0, .int .i64 f, .int .i64 n0]) (fun w' hw' => Or.inl (exec_load rfl rfl (hld.out w' hw'))) (fun K hK => ?_) | refine mixsq rfl rfl 1 (by decide +kernel) (.agg #[.int .i64 m0, .int .i64 f, .int .i64 n0]) (fun w' hw' => Or.inl (exec_load rfl rfl (hld.out w' hw'))) (fun K hK => ?_) | refine mixsq rfl rfl 2 (by decide +kernel) (.agg #[.int .i64 m0, .int .i64 f, .int .i64 n0]) (fun w' hw' => Or.inl (exec_load rfl rfl (hld.out w' hw'))) (fun K hK => ?_) | refine mixsq rfl rfl 3 (by decide +kernel) (.agg #[.int .i64 m0, .int .i64 f, .int .i64 n0]) (fun w' hw' => Or.inl (exec_load rfl rfl (hld.out w' hw'))) (fun K hK => ?_) | refine mixsq rfl rfl 4 (by decide +kernel) (.agg #[.int .i64 m0, .int .i64 f, .int .i64 n0]) (fun w' hw' => Or.inl (exec_load rfl rfl (hld.out w' hw'))) (fun K hK => ?_)); go_simp; refine hK _ ?_; clear hK K
    (first | refine mixsq rfl rfl 0 (by decide +kernel) ?_ (fun w' hw' => Or.inl ?_) (fun K hK => ?_) | refine mixsq rfl rfl 1 (by decide +kernel) ?_ (fun w' hw' => Or.inl ?_) (fun K hK => ?_) | refine mixsq rfl rfl 2 (by decide +kernel) ?_ (fun w' hw' => Or.inl ?_) (fun K hK => ?_) | refine mixsq rfl rfl 3 (by decide +kernel) ?_ (fun w' hw' => Or.inl ?_) (fun K hK => ?_) | refine mixsq rfl rfl 4 (by decide +kernel) ?_ (fun w' hw' => Or.inl ?_) (fun K hK => ?_) | refine mixsq rfl rfl 5 (by decide +kernel) ?_ (fun w' hw' => Or.inl ?_) (fun K hK => ?_) | refine mixsq rfl rfl 6 (by decide +kernel) ?_ (fun w' hw' => Or.inl ?_) (fun K hK => ?_) | refine mixsq rfl rfl 7 (by decide +kernel) ?_ (fun w' hw' => Or.inl ?_) (fun K hK => ?_)); rotate_left; (focus (go_simp; rfl)); go_simp; refine hK _ ?_; clear hK K
    refine mixsl rfl rfl (fun K hK => ?_)
    go_simp
    refine (hBk.out w4.drew hd4).mono ?_
    rintro e w5 ⟨rfl, rfl⟩
    refine hK (fun U => Blk U w.heap.size 29 #[.int .i64 m0, .int .i64 f, .int .i64 n0]) _ _ (fun _ => ⟨hdq, fun _ => hdq⟩) ?_
    clear hK K
    refine mixsl rfl rfl (fun K hK => ?_)
    go_simp
    refine (hRt.out w4.drew).mono ?_
    rintro e w5 ⟨rfl, hb5⟩
    have hB5 : Below w4.heap.size w4 w5 := hd4.trans (hb5.mono hd4.size)
    have hdq5 := blk_below hdq hb5
    have hdr5 := blk_below hdr hb5
    refine hK (fun U => Blk U w.heap.size 29 #[.int .i64 m0, .int .i64 f, .int .i64 n0]) _ _ (fun _ => ⟨hdq5, ext_all (fun _ => hdq5) hdq5⟩) ?_
    clear hK K
    iterate 2 ((first | refine mixsq rfl rfl 0 (by decide +kernel) ?_ (fun w' hw' => Or.inl ?_) (fun K hK => ?_) | refine mixsq rfl rfl 1 (by decide +kernel) ?_ (fun w' hw' => Or.inl ?_) (fun K hK => ?_) | refine mixsq rfl rfl 2 (by decide +kernel) ?_ (fun w' hw' => Or.inl ?_) (fun K hK => ?_) | refine mixsq rfl rfl 3 (by decide +kernel) ?_ (fun w' hw' => Or.inl ?_) (fun K hK => ?_) | refine mixsq rfl rfl 4 (by decide +kernel) ?_ (fun w' hw' => Or.inl ?_) (fun K hK => ?_) | refine mixsq rfl rfl 5 (by decide +kernel) ?_ (fun w' hw' => Or.inl ?_) (fun K hK => ?_) | refine mixsq rfl rfl 6 (by decide +kernel) ?_ (fun w' hw' => Or.inl ?_) (fun K hK => ?_) | refine mixsq rfl rfl 7 (by decide +kernel) ?_ (fun w' hw' => Or.inl ?_) (fun K hK => ?_)); rotate_left; (focus (go_simp; rfl)); go_simp; refine hK _ ?_; clear hK K)
    refine mixsl rfl rfl (fun K hK => ?_)
    go_simp
    refine (hBk.out w5 hB5).mono ?_
    rintro e w6 ⟨rfl, rfl⟩
    refine hK (fun U => Blk U w.heap.size 29 #[.int .i64 m0, .int .i64 f, .int .i64 n0]) _ _ (fun _ => ⟨hdq5, ext_all (ext_all (fun _ => hdq5) hdq5) hdq5⟩) ?_
    clear hK K
    refine mixsl rfl rfl (fun K hK => ?_)
    go_simp
    refine (hRr.out w5 hdr5).mono ?_
    rintro e w6 ⟨rfl, hb6⟩
    have hB6 : Below w4.heap.size w4 w6 := hB5.trans (hb6.mono hB5.size)
    have hdq6 := blk_below hdq5 hb6
    have hdr6 := blk_below hdr5 hb6
    refine hK (fun U => Blk U w.heap.size 29 #[.int .i64 m0, .int .i64 f, .int .i64 n0]) _ _ (fun _ => ⟨hdq6, ext_all (ext_all (ext_all (fun _ => hdq6) hdq6) hdq6) hdq6⟩) ?_
    clear hK K
    iterate 2 ((first | refine mixsq rfl rfl 0 (by decide +kernel) ?_ (fun w' hw' => Or.inl ?_) (fun K hK => ?_) | refine mixsq rfl rfl 1 (by decide +kernel) ?_ (fun w' hw' => Or.inl ?_) (fun K hK => ?_) | refine mixsq rfl rfl 2 (by decide +kernel) ?_ (fun w' hw' => Or.inl ?_) (fun K hK => ?_) | refine mixsq rfl rfl 3 (by decide +kernel) ?_ (fun w' hw' => Or.inl ?_) (fun K hK => ?_) | refine mixsq rfl rfl 4 (by decide +kernel) ?_ (fun w' hw' => Or.inl ?_) (fun K hK => ?_) | refine mixsq rfl rfl 5 (by decide +kernel) ?_ (fun w' hw' => Or.inl ?_) (fun K hK => ?_) | refine mixsq rfl rfl 6 (by decide +kernel) ?_ (fun w' hw' => Or.inl ?_) (fun K hK => ?_) | refine mixsq rfl rfl 7 (by decide +kernel) ?_ (fun w' hw' => Or.inl ?_) (fun K hK => ?_)); rotate_left; (focus (go_simp; rfl)); go_simp; refine hK _ ?_; clear hK K)
    (first | refine mixsq_yes rfl (by first | rfl | kernel_rfl) 0 (by decide +kernel) (.agg #[.int .i64 m0, .int .i64 f, .int .i64 n0]) (fun w' hw' => Or.inl (exec_load rfl rfl (hld.out w' hw'))) (fun K hK => ?_) | refine mixsq_yes rfl (by first | rfl | kernel_rfl) 1 (by decide +kernel) (.agg #[.int .i64 m0, .int .i64 f, .int .i64 n0]) (fun w' hw' => Or.inl (exec_load rfl rfl (hld.out w' hw'))) (fun K hK => ?_) | refine mixsq_yes rfl (by first | rfl | kernel_rfl) 2 (by decide +kernel) (.agg #[.int .i64 m0, .int .i64 f, .int .i64 n0]) (fun w' hw' => Or.inl (exec_load rfl rfl (hld.out w' hw'))) (fun K hK => ?_) | refine mixsq_yes rfl (by first | rfl | kernel_rfl) 3 (by decide +kernel) (.agg #[.int .i64 m0, .int .i64 f, .int .i64 n0]) (fun w' hw' => Or.inl (exec_load rfl rfl (hld.out w' hw'))) (fun K hK => ?_) | refine mixsq_yes rfl (by first | rfl | kernel_rfl) 4 (by decide +kernel) (.agg #[.int .i64 m0, .int .i64 f, .int .i64 n0]) (fun w' hw' => Or.inl (exec_load rfl rfl (hld.out w' hw'))) (fun K hK => ?_)); go_simp; refine hK _ ?_; clear hK K
    refine mixsl_yes rfl (by first | rfl | kernel_rfl) (fun K hK => ?_)
    go_simp
    refine (hMp.out w6).mono ?_
    rintro e w7 ⟨rfl, hb7⟩
    have hB7 : Below w4.heap.size w4 w7 := hB6.trans (hb7.mono hB6.size)
    have hdq7 := blk_below hdq6 hb7
    have hdr7 := blk_below hdr6 hb7
    refine hK (fun U => Blk U w.heap.size 29 #[.int .i64 m0, .int .i64 f, .int .i64 n0]) _ _ (fun _ => ⟨hdq7, ext_all (ext_all (ext_all (ext_all (fun _ => hdq7) hdq7) hdq7) hdq7) hdq7⟩) ?_
    clear hK K
    (first | refine mixsq_yes rfl (by first | rfl | kernel_rfl) 0 (by decide +kernel) ?_ (fun w' hw' => Or.inl ?_) (fun K hK => ?_) | refine mixsq_yes rfl (by first | rfl | kernel_rfl) 1 (by decide +kernel) ?_ (fun w' hw' => Or.inl ?_) (fun K hK => ?_) | refine mixsq_yes rfl (by first | rfl | kernel_rfl) 2 (by decide +kernel) ?_ (fun w' hw' => Or.inl ?_) (fun K hK => ?_) | refine mixsq_yes rfl (by first | rfl | kernel_rfl) 3 (by decide +kernel) ?_ (fun w' hw' => Or.inl ?_) (fun K hK => ?_) | refine mixsq_yes rfl (by first | rfl | kernel_rfl) 4 (by decide +kernel) ?_ (fun w' hw' => Or.inl ?_) (fun K hK => ?_) | refine mixsq_yes rfl (by first | rfl | kernel_rfl) 5 (by decide +kernel) ?_ (fun w' hw' => Or.inl ?_) (fun K hK => ?_) | refine mixsq_yes rfl (by first | rfl | kernel_rfl) 6 (by decide +kernel) ?_ (fun w' hw' => Or.inl ?_) (fun K hK => ?_) | refine mixsq_yes rfl (by first | rfl | kernel_rfl) 7 (by decide +kernel) ?_ (fun w' hw' => Or.inl ?_) (fun K hK => ?_)); rotate_left; (focus (go_simp; rfl)); go_simp; refine hK _ ?_; clear hK K
    refine mixsl_yes rfl (by first | rfl | kernel_rfl) (fun K hK => ?_)
    go_simp
    refine (hMr.out w7 hdr7).mono ?_
    rintro e w8 ⟨rfl, rfl⟩
    refine hK (fun U => True) _ _ (fun _ => ⟨trivial, ext_all (ext_all (ext_all (ext_all (ext_all (fun _ => hdq7) hdq7) hdq7) hdq7) hdq7) hdq7⟩) ?_
    clear hK K
    (first | refine mixsq_yes rfl (by first | rfl | kernel_rfl) 0 (by decide +kernel) ?_ (fun w' hw' => Or.inl ?_) (fun K hK => ?_) | refine mixsq_yes rfl (by first | rfl | kernel_rfl) 1 (by decide +kernel) ?_ (fun w' hw' => Or.inl ?_) (fun K hK => ?_) | refine mixsq_yes rfl (by first | rfl | kernel_rfl) 2 (by decide +kernel) ?_ (fun w' hw' => Or.inl ?_) (fun K hK => ?_) | refine mixsq_yes rfl (by first | rfl | kernel_rfl) 3 (by decide +kernel) ?_ (fun w' hw' => Or.inl ?_) (fun K hK => ?_) | refine mixsq_yes rfl (by first | rfl | kernel_rfl) 4 (by decide +kernel) ?_ (fun w' hw' => Or.inl ?_) (fun K hK => ?_) | refine mixsq_yes rfl (by first | rfl | kernel_rfl) 5 (by decide +kernel) ?_ (fun w' hw' => Or.inl ?_) (fun K hK => ?_) | refine mixsq_yes rfl (by first | rfl | kernel_rfl) 6 (by decide +kernel) ?_ (fun w' hw' => Or.inl ?_) (fun K hK => ?_) | refine mixsq_yes rfl (by first | rfl | kernel_rfl) 7 (by decide +kernel) ?_ (fun w' hw' => Or.inl ?_) (fun K hK => ?_)); rotate_left; (focus (go_simp; rfl)); go_simp; refine hK _ ?_; clear hK K
    (first | refine mixsq rfl rfl 0 (by decide +kernel) ?_ (fun w' hw' => Or.inl ?_) (fun K hK => ?_) | refine mixsq rfl rfl 1 (by decide +kernel) ?_ (fun w' hw' => Or.inl ?_) (fun K hK => ?_) | refine mixsq rfl rfl 2 (by decide +kernel) ?_ (fun w' hw' => Or.inl ?_) (fun K hK => ?_) | refine mixsq rfl rfl 3 (by decide +kernel) ?_ (fun w' hw' => Or.inl ?_) (fun K hK => ?_) | refine mixsq rfl rfl 4 (by decide +kernel) ?_ (fun w' hw' => Or.inl ?_) (fun K hK => ?_) | refine mixsq rfl rfl 5 (by decide +kernel) ?_ (fun w' hw' => Or.inl ?_) (fun K hK => ?_) | refine mixsq rfl rfl 6 (by decide +kernel) ?_ (fun w' hw' => Or.inl ?_) (fun K hK => ?_) | refine mixsq rfl rfl 7 (by decide +kernel) ?_ (fun w' hw' => Or.inl ?_) (fun K hK => ?_)); rotate_left; (focus (go_simp; rfl)); go_simp; refine hK _ ?_; clear hK K
    refine mixs_nil ?_
    have hB7 := Lib.hid hB7
    have hq7 := Lib.hid hdq7
    have hr7 := Lib.hid hdr7
    clear hd4 hdr hdq hb5 hB5 hdq5 hdr5 hb6 hB6 hdq6 hdr6 hb7 hMp hMr
    go_wp2_with fail
    refine (hBk.out w7 hB7.out).mono ?_
    rintro e w8 ⟨rfl, rfl⟩
    go_wp2_with fail
    refine (hRr.out w7 hr7.out).mono ?_
    rintro e w8 ⟨rfl, hb8⟩
    have hB8 := Lib.hid (hB7.out.trans (hb8.mono hB7.out.size))
    have hq8 := Lib.hid (blk_below hq7.out hb8)
    have hr8 := Lib.hid (blk_below hr7.out hb8)
    have hL8 := Lib.hid (hL4.out.below hB8.out)
    have hBB8 := Lib.hid (hB4.out.trans (hB8.out.mono hB4.out.size))
    clear hb8 hB7 hq7 hr7 hRt hRr hBk
    as_aux_lemma =>
      have hblk : Hid (∀ U, Below w8.heap.size w8 U → Calls Try.prog 68 #[.pointer (some ⟨gt, 0, none⟩)] U (Ans U (.int .i64 35))) := Lib.hid fun U hU => (hL8.out.below hU).blocks hN.out
      have hBx : Hid (Below w8.heap.size w8 w8) := Lib.hid (Below.refl _ _)
      have hX := Lib.hid (Take_bad w8 i0.out i1.out i2.out (by omega) hrb.out (fun U hU => hblk.out U (hBx.out.trans (hU.mono hBx.out.size))))
      go_wp2_with (with_reducible refine stop_load 29 ?_)
      refine Stop.mk (wpList_load_cells rfl rfl rfl (load_pool hq8.out) ?_)
      go_wp2_with fail
      refine hX.out.mono ?_
      rintro e w9 ⟨rfl, hb⟩
      have hBx := Lib.hid (hBx.out.trans (hb.mono hBx.out.size))
      have hq8 := Lib.hid (blk_below hq8.out hb)
      clear hX hb
      have hX := Lib.hid (Free_bad w9 i0.out i1.out i2.out (by omega) hrb.out (fun U hU => hblk.out U (hBx.out.trans (hU.mono hBx.out.size))))
      go_wp2_with (with_reducible refine stop_load 29 ?_)
      refine Stop.mk (wpList_load_cells rfl rfl rfl (load_pool hq8.out) ?_)
      go_wp2_with fail
      refine hX.out.mono ?_
      rintro e w10 ⟨rfl, hb⟩
      have hBx := Lib.hid (hBx.out.trans (hb.mono hBx.out.size))
      have hq8 := Lib.hid (blk_below hq8.out hb)
      clear hX hb
      have c1 : w10.cell? ⟨w.heap.size, 1, none⟩ = some (.int .i64 f) := hq8.out.cell 1
      have hX := Lib.hid (has_bad w10 (nn := f) fun W hW => at_bad W i0.out i1.out i2.out i1.out (by omega) (fun U hU => hblk.out U ((hBx.out.trans (hW.mono hBx.out.size)).trans (hU.mono (Nat.le_trans hBx.out.size hW.size)))) hrb.out)
      go_wp2_with (with_reducible refine stop_load 29 ?_)
      refine Stop.mk (wpList_load_cells rfl rfl rfl (load_pool hq8.out) ?_)
      go_wp2_with fail
      refine hX.out.mono ?_
      rintro e w11 ⟨rfl, hb⟩
      have hBx := Lib.hid (hBx.out.trans (hb.mono hBx.out.size))
      have hq8 := Lib.hid (blk_below hq8.out hb)
      clear hX hb c1
      have hX := Lib.hid (Clear_bad w11 i0.out i1.out i2.out (by omega) hrb.out (fun U hU => hblk.out U (hBx.out.trans (hU.mono hBx.out.size))))
      go_wp2_with (with_reducible refine stop_load 29 ?_)
      refine Stop.mk (wpList_load_cells_g rfl rfl rfl (load_pool hq8.out) ?_)
      go_wp2_with fail
      refine hX.out.mono ?_
      rintro e w12 ⟨rfl, hb⟩
      have hBx := Lib.hid (hBx.out.trans (hb.mono hBx.out.size))
      have hq8 := Lib.hid (blk_below hq8.out hb)
      clear hX hb
      have c1 : w12.cell? ⟨w.heap.size, 1, none⟩ = some (.int .i64 f) := hq8.out.cell 1
      have hX := Lib.hid (give_bad w12 (nn := f) fun W hW => at_bad W i0.out i1.out i2.out i1.out (by omega) (fun U hU => hblk.out U ((hBx.out.trans (hW.mono hBx.out.size)).trans (hU.mono (Nat.le_trans hBx.out.size hW.size)))) hrb.out)
      go_wp2_with (with_reducible refine stop_load 29 ?_)
      refine Stop.mk (wpList_load_cells_g rfl rfl rfl (load_pool hq8.out) ?_)
      go_wp2_with fail
      refine hX.out.mono ?_
      rintro e w13 ⟨rfl, hb⟩
      have hBx := Lib.hid (hBx.out.trans (hb.mono hBx.out.size))
      have hq8 := Lib.hid (blk_below hq8.out hb)
      clear hX hb c1
      have hbf := Lib.hid (hBB8.out.trans (hBx.out.mono hBB8.out.size))
      go_wp2
      go_ret
      exact ⟨rfl, hbf.out⟩
  · rw [hrb] at hRt hRr
    replace hrb := Lib.hid hrb
    refine wp_mixs (fun U => Blk U w.heap.size 29 #[.int .i64 m0, .int .i64 f, .int .i64 n0]) [2, 3, 6, 7, 11, 13] (by kernel_rfl) (by kernel_rfl) (by kernel_rfl) (by decide) (show Blk w4.drew _ _ _ from hq4.out) ?_
    have hd4 : Below w4.heap.size w4 w4.drew := (Below.refl _ _).drew
    have hdr : Blk w4.drew gr 41 #[.int .i64 m0, .int .i64 f, .int .i64 n0, .slice none 0 0] := hr4.out
    have hdq : Blk w4.drew w.heap.size 29 #[.int .i64 m0, .int .i64 f, .int .i64 n0] := hq4.out
    (first | refine mixsq rfl rfl 0 (by decide +kernel) (.agg #[.int .i64 m0, .int .i64 f, .int .i64 n0]) (fun w' hw' => Or.inl (exec_load rfl rfl (hld.out w' hw'))) (fun K hK => ?_) | refine mixsq rfl rfl 1 (by decide +kernel) (.agg #[.int .i64 m0, .int .i64 f, .int .i64 n0]) (fun w' hw' => Or.inl (exec_load rfl rfl (hld.out w' hw'))) (fun K hK => ?_) | refine mixsq rfl rfl 2 (by decide +kernel) (.agg #[.int .i64 m0, .int .i64 f, .int .i64 n0]) (fun w' hw' => Or.inl (exec_load rfl rfl (hld.out w' hw'))) (fun K hK => ?_) | refine mixsq rfl rfl 3 (by decide +kernel) (.agg #[.int .i64 m0, .int .i64 f, .int .i64 n0]) (fun w' hw' => Or.inl (exec_load rfl rfl (hld.out w' hw'))) (fun K hK => ?_) | refine mixsq rfl rfl 4 (by decide +kernel) (.agg #[.int .i64 m0, .int .i64 f, .int .i64 n0]) (fun w' hw' => Or.inl (exec_load rfl rfl (hld.out w' hw'))) (fun K hK => ?_)); go_simp; refine hK _ ?_; clear hK K
    (first | refine mixsq rfl rfl 0 (by decide +kernel) ?_ (fun w' hw' => Or.inl ?_) (fun K hK => ?_) | refine mixsq rfl rfl 1 (by decide +kernel) ?_ (fun w' hw' => Or.inl ?_) (fun K hK => ?_) | refine mixsq rfl rfl 2 (by decide +kernel) ?_ (fun w' hw' => Or.inl ?_) (fun K hK => ?_) | refine mixsq rfl rfl 3 (by decide +kernel) ?_ (fun w' hw' => Or.inl ?_) (fun K hK => ?_) | refine mixsq rfl rfl 4 (by decide +kernel) ?_ (fun w' hw' => Or.inl ?_) (fun K hK => ?_) | refine mixsq rfl rfl 5 (by decide +kernel) ?_ (fun w' hw' => Or.inl ?_) (fun K hK => ?_) | refine mixsq rfl rfl 6 (by decide +kernel) ?_ (fun w' hw' => Or.inl ?_) (fun K hK => ?_) | refine mixsq rfl rfl 7 (by decide +kernel) ?_ (fun w' hw' => Or.inl ?_) (fun K hK => ?_)); rotate_left; (focus (go_simp; rfl)); go_simp; refine hK _ ?_; clear hK K
    refine mixsl rfl rfl (fun K hK => ?_)
    go_simp
    refine (hBk.out w4.drew hd4).mono ?_
    rintro e w5 ⟨rfl, rfl⟩
    refine hK (fun U => Blk U w.heap.size 29 #[.int .i64 m0, .int .i64 f, .int .i64 n0]) _ _ (fun _ => ⟨hdq, fun _ => hdq⟩) ?_
    clear hK K
    refine mixsl rfl rfl (fun K hK => ?_)
    go_simp
    refine (hRt.out w4.drew).mono ?_
    rintro e w5 ⟨rfl, hb5⟩
    have hB5 : Below w4.heap.size w4 w5 := hd4.trans (hb5.mono hd4.size)
    have hdq5 := blk_below hdq hb5
    have hdr5 := blk_below hdr hb5
    refine hK (fun U => Blk U w.heap.size 29 #[.int .i64 m0, .int .i64 f, .int .i64 n0]) _ _ (fun _ => ⟨hdq5, ext_all (fun _ => hdq5) hdq5⟩) ?_
    clear hK K
    iterate 2 ((first | refine mixsq rfl rfl 0 (by decide +kernel) ?_ (fun w' hw' => Or.inl ?_) (fun K hK => ?_) | refine mixsq rfl rfl 1 (by decide +kernel) ?_ (fun w' hw' => Or.inl ?_) (fun K hK => ?_) | refine mixsq rfl rfl 2 (by decide +kernel) ?_ (fun w' hw' => Or.inl ?_) (fun K hK => ?_) | refine mixsq rfl rfl 3 (by decide +kernel) ?_ (fun w' hw' => Or.inl ?_) (fun K hK => ?_) | refine mixsq rfl rfl 4 (by decide +kernel) ?_ (fun w' hw' => Or.inl ?_) (fun K hK => ?_) | refine mixsq rfl rfl 5 (by decide +kernel) ?_ (fun w' hw' => Or.inl ?_) (fun K hK => ?_) | refine mixsq rfl rfl 6 (by decide +kernel) ?_ (fun w' hw' => Or.inl ?_) (fun K hK => ?_) | refine mixsq rfl rfl 7 (by decide +kernel) ?_ (fun w' hw' => Or.inl ?_) (fun K hK => ?_)); rotate_left; (focus (go_simp; rfl)); go_simp; refine hK _ ?_; clear hK K)
    refine mixsl rfl rfl (fun K hK => ?_)
    go_simp
    refine (hBk.out w5 hB5).mono ?_
    rintro e w6 ⟨rfl, rfl⟩
    refine hK (fun U => Blk U w.heap.size 29 #[.int .i64 m0, .int .i64 f, .int .i64 n0]) _ _ (fun _ => ⟨hdq5, ext_all (ext_all (fun _ => hdq5) hdq5) hdq5⟩) ?_
    clear hK K
    refine mixsl rfl rfl (fun K hK => ?_)
    go_simp
    refine (hRr.out w5 hdr5).mono ?_
    rintro e w6 ⟨rfl, hb6⟩
    have hB6 : Below w4.heap.size w4 w6 := hB5.trans (hb6.mono hB5.size)
    have hdq6 := blk_below hdq5 hb6
    have hdr6 := blk_below hdr5 hb6
    refine hK (fun U => Blk U w.heap.size 29 #[.int .i64 m0, .int .i64 f, .int .i64 n0]) _ _ (fun _ => ⟨hdq6, ext_all (ext_all (ext_all (fun _ => hdq6) hdq6) hdq6) hdq6⟩) ?_
    clear hK K
    iterate 2 ((first | refine mixsq rfl rfl 0 (by decide +kernel) ?_ (fun w' hw' => Or.inl ?_) (fun K hK => ?_) | refine mixsq rfl rfl 1 (by decide +kernel) ?_ (fun w' hw' => Or.inl ?_) (fun K hK => ?_) | refine mixsq rfl rfl 2 (by decide +kernel) ?_ (fun w' hw' => Or.inl ?_) (fun K hK => ?_) | refine mixsq rfl rfl 3 (by decide +kernel) ?_ (fun w' hw' => Or.inl ?_) (fun K hK => ?_) | refine mixsq rfl rfl 4 (by decide +kernel) ?_ (fun w' hw' => Or.inl ?_) (fun K hK => ?_) | refine mixsq rfl rfl 5 (by decide +kernel) ?_ (fun w' hw' => Or.inl ?_) (fun K hK => ?_) | refine mixsq rfl rfl 6 (by decide +kernel) ?_ (fun w' hw' => Or.inl ?_) (fun K hK => ?_) | refine mixsq rfl rfl 7 (by decide +kernel) ?_ (fun w' hw' => Or.inl ?_) (fun K hK => ?_)); rotate_left; (focus (go_simp; rfl)); go_simp; refine hK _ ?_; clear hK K)
    (first | refine mixsq_yes rfl (by first | rfl | kernel_rfl) 0 (by decide +kernel) (.agg #[.int .i64 m0, .int .i64 f, .int .i64 n0]) (fun w' hw' => Or.inl (exec_load rfl rfl (hld.out w' hw'))) (fun K hK => ?_) | refine mixsq_yes rfl (by first | rfl | kernel_rfl) 1 (by decide +kernel) (.agg #[.int .i64 m0, .int .i64 f, .int .i64 n0]) (fun w' hw' => Or.inl (exec_load rfl rfl (hld.out w' hw'))) (fun K hK => ?_) | refine mixsq_yes rfl (by first | rfl | kernel_rfl) 2 (by decide +kernel) (.agg #[.int .i64 m0, .int .i64 f, .int .i64 n0]) (fun w' hw' => Or.inl (exec_load rfl rfl (hld.out w' hw'))) (fun K hK => ?_) | refine mixsq_yes rfl (by first | rfl | kernel_rfl) 3 (by decide +kernel) (.agg #[.int .i64 m0, .int .i64 f, .int .i64 n0]) (fun w' hw' => Or.inl (exec_load rfl rfl (hld.out w' hw'))) (fun K hK => ?_) | refine mixsq_yes rfl (by first | rfl | kernel_rfl) 4 (by decide +kernel) (.agg #[.int .i64 m0, .int .i64 f, .int .i64 n0]) (fun w' hw' => Or.inl (exec_load rfl rfl (hld.out w' hw'))) (fun K hK => ?_)); go_simp; refine hK _ ?_; clear hK K
    refine mixsl_yes rfl (by first | rfl | kernel_rfl) (fun K hK => ?_)
    go_simp
    refine (hMp.out w6).mono ?_
    rintro e w7 ⟨rfl, hb7⟩
    have hB7 : Below w4.heap.size w4 w7 := hB6.trans (hb7.mono hB6.size)
    have hdq7 := blk_below hdq6 hb7
    have hdr7 := blk_below hdr6 hb7
    refine hK (fun U => Blk U w.heap.size 29 #[.int .i64 m0, .int .i64 f, .int .i64 n0]) _ _ (fun _ => ⟨hdq7, ext_all (ext_all (ext_all (ext_all (fun _ => hdq7) hdq7) hdq7) hdq7) hdq7⟩) ?_
    clear hK K
    (first | refine mixsq_yes rfl (by first | rfl | kernel_rfl) 0 (by decide +kernel) ?_ (fun w' hw' => Or.inl ?_) (fun K hK => ?_) | refine mixsq_yes rfl (by first | rfl | kernel_rfl) 1 (by decide +kernel) ?_ (fun w' hw' => Or.inl ?_) (fun K hK => ?_) | refine mixsq_yes rfl (by first | rfl | kernel_rfl) 2 (by decide +kernel) ?_ (fun w' hw' => Or.inl ?_) (fun K hK => ?_) | refine mixsq_yes rfl (by first | rfl | kernel_rfl) 3 (by decide +kernel) ?_ (fun w' hw' => Or.inl ?_) (fun K hK => ?_) | refine mixsq_yes rfl (by first | rfl | kernel_rfl) 4 (by decide +kernel) ?_ (fun w' hw' => Or.inl ?_) (fun K hK => ?_) | refine mixsq_yes rfl (by first | rfl | kernel_rfl) 5 (by decide +kernel) ?_ (fun w' hw' => Or.inl ?_) (fun K hK => ?_) | refine mixsq_yes rfl (by first | rfl | kernel_rfl) 6 (by decide +kernel) ?_ (fun w' hw' => Or.inl ?_) (fun K hK => ?_) | refine mixsq_yes rfl (by first | rfl | kernel_rfl) 7 (by decide +kernel) ?_ (fun w' hw' => Or.inl ?_) (fun K hK => ?_)); rotate_left; (focus (go_simp; rfl)); go_simp; refine hK _ ?_; clear hK K
    refine mixsl_yes rfl (by first | rfl | kernel_rfl) (fun K hK => ?_)
    go_simp
    refine (hMr.out w7 hdr7).mono ?_
    rintro e w8 ⟨rfl, rfl⟩
    refine hK (fun U => True) _ _ (fun _ => ⟨trivial, ext_all (ext_all (ext_all (ext_all (ext_all (fun _ => hdq7) hdq7) hdq7) hdq7) hdq7) hdq7⟩) ?_
    clear hK K
    (first | refine mixsq_yes rfl (by first | rfl | kernel_rfl) 0 (by decide +kernel) ?_ (fun w' hw' => Or.inl ?_) (fun K hK => ?_) | refine mixsq_yes rfl (by first | rfl | kernel_rfl) 1 (by decide +kernel) ?_ (fun w' hw' => Or.inl ?_) (fun K hK => ?_) | refine mixsq_yes rfl (by first | rfl | kernel_rfl) 2 (by decide +kernel) ?_ (fun w' hw' => Or.inl ?_) (fun K hK => ?_) | refine mixsq_yes rfl (by first | rfl | kernel_rfl) 3 (by decide +kernel) ?_ (fun w' hw' => Or.inl ?_) (fun K hK => ?_) | refine mixsq_yes rfl (by first | rfl | kernel_rfl) 4 (by decide +kernel) ?_ (fun w' hw' => Or.inl ?_) (fun K hK => ?_) | refine mixsq_yes rfl (by first | rfl | kernel_rfl) 5 (by decide +kernel) ?_ (fun w' hw' => Or.inl ?_) (fun K hK => ?_) | refine mixsq_yes rfl (by first | rfl | kernel_rfl) 6 (by decide +kernel) ?_ (fun w' hw' => Or.inl ?_) (fun K hK => ?_) | refine mixsq_yes rfl (by first | rfl | kernel_rfl) 7 (by decide +kernel) ?_ (fun w' hw' => Or.inl ?_) (fun K hK => ?_)); rotate_left; (focus (go_simp; rfl)); go_simp; refine hK _ ?_; clear hK K
    (first | refine mixsq rfl rfl 0 (by decide +kernel) ?_ (fun w' hw' => Or.inl ?_) (fun K hK => ?_) | refine mixsq rfl rfl 1 (by decide +kernel) ?_ (fun w' hw' => Or.inl ?_) (fun K hK => ?_) | refine mixsq rfl rfl 2 (by decide +kernel) ?_ (fun w' hw' => Or.inl ?_) (fun K hK => ?_) | refine mixsq rfl rfl 3 (by decide +kernel) ?_ (fun w' hw' => Or.inl ?_) (fun K hK => ?_) | refine mixsq rfl rfl 4 (by decide +kernel) ?_ (fun w' hw' => Or.inl ?_) (fun K hK => ?_) | refine mixsq rfl rfl 5 (by decide +kernel) ?_ (fun w' hw' => Or.inl ?_) (fun K hK => ?_) | refine mixsq rfl rfl 6 (by decide +kernel) ?_ (fun w' hw' => Or.inl ?_) (fun K hK => ?_) | refine mixsq rfl rfl 7 (by decide +kernel) ?_ (fun w' hw' => Or.inl ?_) (fun K hK => ?_)); rotate_left; (focus (go_simp; rfl)); go_simp; refine hK _ ?_; clear hK K
    refine mixs_nil ?_
    have hB7 := Lib.hid hB7
    have hq7 := Lib.hid hdq7
    have hr7 := Lib.hid hdr7
    clear hd4 hdr hdq hb5 hB5 hdq5 hdr5 hb6 hB6 hdq6 hdr6 hb7 hMp hMr
    go_wp2_with fail
    refine (hBk.out w7 hB7.out).mono ?_
    rintro e w8 ⟨rfl, rfl⟩
    go_wp2_with fail
    refine (hRr.out w7 hr7.out).mono ?_
    rintro e w8 ⟨rfl, hb8⟩
    have hB8 := Lib.hid (hB7.out.trans (hb8.mono hB7.out.size))
    have hq8 := Lib.hid (blk_below hq7.out hb8)
    have hr8 := Lib.hid (blk_below hr7.out hb8)
    have hL8 := Lib.hid (hL4.out.below hB8.out)
    have hBB8 := Lib.hid (hB4.out.trans (hB8.out.mono hB4.out.size))
    clear hb8 hB7 hq7 hr7 hRt hRr hBk
    obtain ⟨m, n, rfl, rfl, hp⟩ := right_ok hrb.out
    have hp := Lib.hid hp
    clear hrb i0 i1 i2 hK0
    have hM := Lib.hid (mapIn hp.out)
    have hP := Lib.hid (hL8.out.fresh1 [m, m + 1, m + 2, m + 3] m n)
    obtain ⟨T0, hT0⟩ : ∃ T0 : Nat → Bool, (fun i => bitAt (datP (begK d) fmtV (m + i / 4096)) (i % 4096)) = T0 := ⟨_, rfl⟩
    rw [hT0] at hP
    clear hT0 hL8 hL4 hB4 hr4 hq4 hB8
    go_wp2_with (with_reducible refine stop_load 29 ?_)
    refine Stop.mk (wpList_load_cells rfl rfl rfl (load_pool hq8.out) ?_)
    have hC := Lib.hid (hP.out.clear hM.out (Apt.zero _ _ _))
    clear hP
    go_wp2_with fail
    refine hC.out.mono ?_
    rintro e w9 ⟨rfl, hP9, hK9⟩
    have hr9 := Lib.hid (hK9.blk hr8.out rfl)
    obtain ⟨t, h1, h2, h3, h4, _⟩ := hP9.ex
    have hCm := Lib.hid (cCommit h1 hN.out h2 ⟨Int.le_refl _, by show (0 : Int) ≤ _; omega⟩)
    replace h4 := Lib.hid h4
    clear hC hP9 hK9 h1 h2 h3 hq8 hr8
    go_wp2_with fail
    refine hCm.out.mono ?_
    rintro e w10 ⟨rfl, y, V, hT, hK, hdv, hop, hpn, _⟩
    have hr10 := Lib.hid (hK.blk hr9.out rfl)
    have hdat : Hid (∀ j, j < n → bitAt (datP y V (m + j / 4096)) (j % 4096) = false) := Lib.hid fun j hj => by
      rw [hdv _ (by have := hp.out.m0; have := hp.out.n0; omega)]
      exact h4.out j hj
    have hpn1 : Hid (0 ≤ y.pn ∧ y.pn ≤ 0 + 1) := Lib.hid (by
      rw [hpn]
      split
      · exact ⟨by show (0 : Int) ≤ 0 + 1; omega, Int.le_refl _⟩
      · exact ⟨by omega, by omega⟩)
    have hBg := Lib.hid (cBegin hT.lc hop)
    clear hCm hT hK hdv hop hpn h4 hr9
    go_wp2_with fail
    refine hBg.out.mono ?_
    rintro e w11 ⟨gt2, rfl, ht, hK⟩
    have hr11 := Lib.hid (hK.blk hr10.out rfl)
    have hP := Lib.hid ((ht.fresh1 [m, m + 1, m + 2, m + 3] m n).congr (S := fun _ => false) fun j hj => hdat.out j hj)
    obtain ⟨x0, hx0⟩ : ∃ x0 : Lk, Hid ((⟨y.d, y.wt, y.pn, true⟩ : Lk) = x0) := ⟨_, Lib.hid rfl⟩
    rw [hx0.out] at hP
    have hdat2 : Hid (∀ j, j < n → bitAt (datP x0 V (m + j / 4096)) (j % 4096) = false) := Lib.hid fun j hj => by rw [← hx0.out]; exact hdat.out j hj
    have hpn2 : Hid (0 ≤ x0.pn ∧ x0.pn ≤ 0 + 1) := Lib.hid (by rw [← hx0.out]; exact hpn1.out)
    have hRc := Lib.hid (rClear_calls w11 hr11.out (by have := hp.out.n0; omega))
    clear hBg ht hK hr10 hdat hpn1 hx0
    go_wp2_with fail
    refine hRc.out.mono ?_
    rintro e w12 ⟨rfl, gb, g1, g2, hRP, hch⟩
    have hgb : Hid (w2.heap.size ≤ gb) := Lib.hid (Nat.le_trans hP.out.bel.size g1)
    have hP12 := Lib.hid (hP.out.ownMore hch (fun k hk => ⟨hk, by rw [show k = gr from hk]; exact hgr0.out⟩) (fun k cs hb hk => by subst hk; cases hr11.out.symm.trans hb) (fun k cs hb hk => by subst hk; cases hr11.out.symm.trans hb) (Y := fun k => k = gr ∨ k = gb) (fun k hk => hk.imp id fun e => by rw [e]; exact ⟨g1, g2⟩))
    have hRP := Lib.hid hRP
    clear hRc hch g1 g2 hP hr11
    have hrow := Lib.hid (own_empty w12 4)
    have hrd := Lib.hid ((RB.rd hRP.out.row (Nat.le_refl n)).below ((Below.refl w12.heap.size w12).alloc (Nat.le_refl _) (.cells #[] 4)))
    have c3 : w12.cell? ⟨gr, 3, none⟩ = some (.slice (some ⟨gb, 0, none⟩) n n) := (hRP.out).blk.cell 3
    have c3b : (w12.alloc (.cells #[] 4)).cell? ⟨gr, 3, none⟩ = some (.slice (some ⟨gb, 0, none⟩) n n) := ((hRP.out).blk.alloc (.cells #[] 4)).cell 3
    have nne : gr ≠ w12.heap.size := Nat.ne_of_lt (hRP.out).blk.lt
    obtain ⟨ib, hi0, hz0, hz1, hz2⟩ := info_parts Try.info_bool
    go_wp2_with (at_builtin; refine stop_app rfl ?_)
    refine Stop.mk (wpList_app _ rfl rfl (us := bvl n (fun _ => false)) (base := 0) Try.underlying34 hi0 hz0 hz1 hz2 rfl hrow.out rfl hrd.out rfl (bvl_one _ _) ?_ ?_ (Nat.zero_le _) ?_)
    · unfold maxLen; rw [bvl_len]; have := hp.out.n0; omega
    · rw [bvl_len]; have := hp.out.n0; omega
    intro v9 w13 hown hg hat
    obtain ⟨ba, ca, rfl, hca, hRB, hb13, k1, k2⟩ := app_done hown hg hat hp.out.n0.1
    clear hrow hrd c3 c3b nne hi0 hz0 hz1 hz2 hown hg hat
    have hgbl : gb < w12.heap.size := by
      obtain ⟨cs, q, _⟩ := hRP.out.row
      exact q.lt
    have hS : Hid (St w2 w13 gl g gt2 w.heap.size gr gb n ba m n f (0 + 1) x0 V (fun _ => false) (fun _ => false) (fun _ => false) (fun _ => false)) := Lib.hid ⟨hP12.out.more hb13 (fun k hk => by
      rcases hk with e | e | e
      · exact .inl (.inl e)
      · exact .inl (.inr e)
      · exact .inr (by rw [e]; exact ⟨k1, k2⟩)), hdat2.out, hpn2.out, hq2.out, hRP.out.below hb13, hRB, ⟨hgr0.out, hgb.out⟩, by omega, Nat.le_refl n⟩
    have hca0 := Lib.hid hca
    clear hP12 hRP hRB hb13 k1 k2 hgbl hdat2 hpn2 hgb hca
    go_wp2
    go_loopw [15, 6, 14] (fun iv tv wv wr => ∃ (i gt gb cb ba ca : Nat) (x : Lk) (V : Nat → List UInt8) (T U : Nat → Bool), i ≤ L ∧ iv = .int .i64 (i : Int) ∧ tv = .pointer (some ⟨gt, 0, none⟩) ∧ wv = .slice (some ⟨ba, 0, none⟩) n ca ∧ Hid (n ≤ ca) ∧ Hid (St w2 wr gl g gt w.heap.size gr gb cb ba m n f ((i : Int) + 1) x V T T U U)) (fun iv _ _ _ => L - (RowKit.intOf iv).toNat)
    case atStart => exact ⟨0, gt2, gb, n, ba, ca, x0, V, _, _, Nat.zero_le _, rfl, rfl, rfl, hca0, hS⟩
    case round =>
      clear hS hca0 hBB8
      obtain ⟨i, gt3, gb, cb, ba, ca, x, V2, T, U, hi, rfl, rfl, rfl, hca, hS⟩ := hrel
      by_cases hiL : i < L
      · have hiL' : (i : Int) < (L : Int) := by omega
        have hil : i < ys.length := by rw [hLn.out]; exact hiL
        have hBw : Hid (Below w.heap.size w wr) := Lib.hid (hB2.out.trans (hS.out.p2.bel.mono hB2.out.size))
        have hw0 := hx1.out.at_ hil
        obtain ⟨ad, rfl, e0', e1'⟩ := hw0
        have hE : Hid (∀ U, Below w.heap.size w U → U.cell? ⟨(ad.add (i * 2)).block, (ad.add (i * 2)).off + 1, none⟩ = some (.int .i64 (ys[i]'hil).n)) := Lib.hid fun U hU => (hU.cell (World.block_lt_of_cell? w _ e1')).trans e1'
        have e0 := (hBw.out.cell (World.block_lt_of_cell? w _ e0')).trans e0'
        clear e0' e1'
        have hwn : Hid (I64 (ys[i]'hil).n) := Lib.hid (wf64K (hx1.out.2 _ (List.getElem_mem hil)))
        generalize ys[i]'hil = ac at *
        obtain ⟨ao, an⟩ := ac
        dsimp only at e0 hwn hE
        by_cases h1 : ao = 1
        · subst h1
          as_aux_lemma =>
            have hT1 := Lib.hid (hS.out.take hp.out)
            have hrn := hp.out.n0
            go_wp2_with (with_reducible refine stop_load 29 ?_)
            refine Stop.mk (wpList_load_cells rfl rfl rfl (load_pool hS.out.qb) ?_)
            go_wp2_with fail
            refine hT1.out.mono ?_
            rintro e w20 (⟨hl, rfl, hS2⟩ | ⟨j, hl, rfl, hS2⟩)
            · have hR := Lib.hid (rTake_calls w20 hS2.sx.rp hrn.2 hp.out.f0)
              have hS := Lib.hid hS2
              clear hT1 hS2
              go_wp2_with fail
              refine hR.out.mono ?_
              rintro e w21 (⟨_, rfl, rfl⟩ | ⟨j2, hl2, _⟩)
              · clear hR hl
                have hFr := hS.out.p2.free hM.out
                have hrn := hp.out.n0
                obtain ⟨fv, hfv⟩ : ∃ fv, Hid ((n : Int) - (cntT (T) n : Int) = fv) := ⟨_, Lib.hid rfl⟩
                rw [hfv.out] at hFr
                replace hFr := Lib.hid hFr
                go_wp2_with (with_reducible refine stop_load 29 ?_)
                refine Stop.mk (wpList_load_cells rfl rfl rfl (load_pool hS.out.qb) ?_)
                go_wp2_with fail
                refine hFr.out.mono ?_
                rintro e wf ⟨rfl, hbf⟩
                have hS := Lib.hid (hS.out.below hbf)
                have hrF := rFree_calls wf hS.out.sx.rp hrn.2
                rw [hfv.out] at hrF
                replace hrF := Lib.hid hrF
                clear hFr hbf
                go_wp2_with fail
                refine hrF.out.mono ?_
                rintro e wg ⟨rfl, rfl⟩
                clear hrF hfv
                go_wp2
                go_roundw
                case rel => exact ⟨i + 1, gt3, gb, cb, ba, ca, x, V2, T, U, by omega, by go_num, rfl, rfl, hca, Lib.hid (hS.out.mono (by omega))⟩
                case measure => simp [RowKit.intOf]; omega
              · rw [hl] at hl2; cases hl2
            · have hR := Lib.hid (rTake_calls w20 hS2.sx.rp hrn.2 hp.out.f0)
              have hS2 := Lib.hid hS2
              clear hT1
              go_wp2_with fail
              refine hR.out.mono ?_
              rintro e w21 (⟨hl2, _⟩ | ⟨j2, hl2, rfl, hrp, hch⟩)
              · rw [hl] at hl2; cases hl2
              · rw [hl] at hl2
                obtain rfl : j = j2 := Option.some.inj hl2
                have hS := Lib.hid (hS2.out.row hch hrp)
                clear hR hl hl2 hrp hch hS2
                have hFr := hS.out.p2.free hM.out
                have hrn := hp.out.n0
                obtain ⟨fv, hfv⟩ : ∃ fv, Hid ((n : Int) - (cntT ((flipT T j)) n : Int) = fv) := ⟨_, Lib.hid rfl⟩
                rw [hfv.out] at hFr
                replace hFr := Lib.hid hFr
                go_wp2_with (with_reducible refine stop_load 29 ?_)
                refine Stop.mk (wpList_load_cells rfl rfl rfl (load_pool hS.out.qb) ?_)
                go_wp2_with fail
                refine hFr.out.mono ?_
                rintro e wf ⟨rfl, hbf⟩
                have hS := Lib.hid (hS.out.below hbf)
                have hrF := rFree_calls wf hS.out.sx.rp hrn.2
                rw [hfv.out] at hrF
                replace hrF := Lib.hid hrF
                clear hFr hbf
                go_wp2_with fail
                refine hrF.out.mono ?_
                rintro e wg ⟨rfl, rfl⟩
                clear hrF hfv
                go_wp2
                go_roundw
                case rel => exact ⟨i + 1, gt3, gb, cb, ba, ca, x, V2, (flipT T j), U, by omega, by go_num, rfl, rfl, hca, Lib.hid (hS.out.mono (by omega))⟩
                case measure => simp [RowKit.intOf]; omega
        by_cases h2 : ao = 2
        · subst h2
          as_aux_lemma =>
            have hrn := hp.out.n0
            by_cases hin : f ≤ an ∧ an - f < (n : Int)
            · obtain ⟨j, hj, hanj⟩ : ∃ j : Nat, j < n ∧ an = f + (j : Int) := ⟨(an - f).toNat, by omega, by omega⟩
              cases hTj : T j with
              | true =>
                have hG : Hid (∀ W, St w2 W gl g gt3 w.heap.size gr gb cb ba m n f ((i : Int) + 1) x V2 (T) T U U → Calls Try.prog 11 #[.agg #[.int .i64 (m : Int), .int .i64 f, .int .i64 (n : Int)], .pointer (some ⟨gt3, 0, none⟩), .int .i64 an] W (fun e w' => e = .returned (.int .i64 0) ∧ St w2 w' gl g gt3 w.heap.size gr gb cb ba m n f ((i : Int) + 1) x V2 (flipT T j) T U U)) := Lib.hid fun W hW => by
                  rw [hanj]
                  refine (hW.give hp.out hj).mono ?_
                  rintro e w' (⟨_, b, c⟩ | ⟨a, _⟩)
                  · exact ⟨b, c⟩
                  · rw [hTj] at a; cases a
                have hR : Hid (∀ W, RP W gr gb cb (m : Int) f n T → Calls Try.prog 23 #[.pointer (some ⟨gr, 0, none⟩), .int .i64 an] W (fun e w' => e = .returned (.int .i64 0) ∧ RP w' gr gb cb (m : Int) f n (flipT T j) ∧ Chg (fun i => i = gb) W w')) := Lib.hid fun W hW => by
                  rw [hanj]
                  refine (rGive_in W hW hrn.2 hp.out.f0 hj).mono ?_
                  rintro e w' (⟨_, b, c, d⟩ | ⟨a, _⟩)
                  · exact ⟨b, c, d⟩
                  · rw [hTj] at a; cases a
                clear hin hanj hTj hj
                go_wp2_with fail
                have hd0 : Below wr.heap.size wr wr.drew := (Below.refl _ _).drew
                have hSd := hS.out.below hd0
                have hCd : (fun U => Blk U w.heap.size 29 #[.int .i64 (m : Int), .int .i64 f, .int .i64 (n : Int)] ∧ U.cell? ⟨(ad.add (i * 2)).block, (ad.add (i * 2)).off + 1, none⟩ = some (.int .i64 an)) wr.drew := ⟨hSd.qb, hE.out _ (hBw.out.trans (hd0.mono hBw.out.size))⟩
                refine wp_mixs (fun U => Blk U w.heap.size 29 #[.int .i64 (m : Int), .int .i64 f, .int .i64 (n : Int)] ∧ U.cell? ⟨(ad.add (i * 2)).block, (ad.add (i * 2)).off + 1, none⟩ = some (.int .i64 an)) [7, 14] (by kernel_rfl) (by kernel_rfl) (by kernel_rfl) (by decide) hCd ?_
                (first | refine mixsq rfl rfl 0 (by decide +kernel) (.agg #[.int .i64 (m : Int), .int .i64 f, .int .i64 (n : Int)]) (fun w' hw' => Or.inl (exec_load rfl rfl (hld.out w' (And.left hw')))) (fun K hK => ?_) | refine mixsq rfl rfl 1 (by decide +kernel) (.agg #[.int .i64 (m : Int), .int .i64 f, .int .i64 (n : Int)]) (fun w' hw' => Or.inl (exec_load rfl rfl (hld.out w' (And.left hw')))) (fun K hK => ?_) | refine mixsq rfl rfl 2 (by decide +kernel) (.agg #[.int .i64 (m : Int), .int .i64 f, .int .i64 (n : Int)]) (fun w' hw' => Or.inl (exec_load rfl rfl (hld.out w' (And.left hw')))) (fun K hK => ?_) | refine mixsq rfl rfl 3 (by decide +kernel) (.agg #[.int .i64 (m : Int), .int .i64 f, .int .i64 (n : Int)]) (fun w' hw' => Or.inl (exec_load rfl rfl (hld.out w' (And.left hw')))) (fun K hK => ?_) | refine mixsq rfl rfl 4 (by decide +kernel) (.agg #[.int .i64 (m : Int), .int .i64 f, .int .i64 (n : Int)]) (fun w' hw' => Or.inl (exec_load rfl rfl (hld.out w' (And.left hw')))) (fun K hK => ?_)); go_simp; refine hK _ ?_; clear hK K
                iterate 6 ((first | refine mixsq rfl rfl 0 (by decide +kernel) ?_ (fun w' hw' => Or.inl ?_) (fun K hK => ?_) | refine mixsq rfl rfl 1 (by decide +kernel) ?_ (fun w' hw' => Or.inl ?_) (fun K hK => ?_) | refine mixsq rfl rfl 2 (by decide +kernel) ?_ (fun w' hw' => Or.inl ?_) (fun K hK => ?_) | refine mixsq rfl rfl 3 (by decide +kernel) ?_ (fun w' hw' => Or.inl ?_) (fun K hK => ?_) | refine mixsq rfl rfl 4 (by decide +kernel) ?_ (fun w' hw' => Or.inl ?_) (fun K hK => ?_) | refine mixsq rfl rfl 5 (by decide +kernel) ?_ (fun w' hw' => Or.inl ?_) (fun K hK => ?_) | refine mixsq rfl rfl 6 (by decide +kernel) ?_ (fun w' hw' => Or.inl ?_) (fun K hK => ?_) | refine mixsq rfl rfl 7 (by decide +kernel) ?_ (fun w' hw' => Or.inl ?_) (fun K hK => ?_)); rotate_left; (focus (have c9 := And.right hw'; go_simp; rfl)); go_simp; refine hK _ ?_; clear hK K)
                refine mixsl rfl rfl (fun K hK => ?_)
                go_simp
                refine (hG.out wr.drew hSd).mono ?_
                rintro e w20 ⟨rfl, hS2⟩
                have hB20 : Below w.heap.size w w20 := hB2.out.trans (hS2.p2.bel.mono hB2.out.size)
                have hC20 : (fun U => Blk U w.heap.size 29 #[.int .i64 (m : Int), .int .i64 f, .int .i64 (n : Int)] ∧ U.cell? ⟨(ad.add (i * 2)).block, (ad.add (i * 2)).off + 1, none⟩ = some (.int .i64 an)) w20 := ⟨hS2.qb, hE.out _ hB20⟩
                refine hK (fun U => Blk U w.heap.size 29 #[.int .i64 (m : Int), .int .i64 f, .int .i64 (n : Int)] ∧ U.cell? ⟨(ad.add (i * 2)).block, (ad.add (i * 2)).off + 1, none⟩ = some (.int .i64 an)) _ _ (fun _ => ⟨hC20, fun _ => hC20⟩) ?_
                clear hK K
                iterate 6 ((first | refine mixsq rfl rfl 0 (by decide +kernel) ?_ (fun w' hw' => Or.inl ?_) (fun K hK => ?_) | refine mixsq rfl rfl 1 (by decide +kernel) ?_ (fun w' hw' => Or.inl ?_) (fun K hK => ?_) | refine mixsq rfl rfl 2 (by decide +kernel) ?_ (fun w' hw' => Or.inl ?_) (fun K hK => ?_) | refine mixsq rfl rfl 3 (by decide +kernel) ?_ (fun w' hw' => Or.inl ?_) (fun K hK => ?_) | refine mixsq rfl rfl 4 (by decide +kernel) ?_ (fun w' hw' => Or.inl ?_) (fun K hK => ?_) | refine mixsq rfl rfl 5 (by decide +kernel) ?_ (fun w' hw' => Or.inl ?_) (fun K hK => ?_) | refine mixsq rfl rfl 6 (by decide +kernel) ?_ (fun w' hw' => Or.inl ?_) (fun K hK => ?_) | refine mixsq rfl rfl 7 (by decide +kernel) ?_ (fun w' hw' => Or.inl ?_) (fun K hK => ?_)); rotate_left; (focus (have c9 := And.right hw'; go_simp; rfl)); go_simp; refine hK _ ?_; clear hK K)
                refine mixsl rfl rfl (fun K hK => ?_)
                go_simp
                refine (hR.out w20 hS2.sx.rp).mono ?_
                rintro e w21 ⟨rfl, hrp, hch⟩
                have hS9 := hS2.row hch hrp
                have hX9 : (fun U => Blk U w.heap.size 29 #[.int .i64 (m : Int), .int .i64 f, .int .i64 (n : Int)] ∧ U.cell? ⟨(ad.add (i * 2)).block, (ad.add (i * 2)).off + 1, none⟩ = some (.int .i64 an)) w21 := ⟨hS9.qb, hE.out _ (hB2.out.trans (hS9.p2.bel.mono hB2.out.size))⟩
                refine hK (fun _ => True) _ _ (fun _ => ⟨trivial, ext_all (fun _ => hX9) hX9⟩) ?_
                clear hK K
                (first | refine mixsq rfl rfl 0 (by decide +kernel) ?_ (fun w' hw' => Or.inl ?_) (fun K hK => ?_) | refine mixsq rfl rfl 1 (by decide +kernel) ?_ (fun w' hw' => Or.inl ?_) (fun K hK => ?_) | refine mixsq rfl rfl 2 (by decide +kernel) ?_ (fun w' hw' => Or.inl ?_) (fun K hK => ?_) | refine mixsq rfl rfl 3 (by decide +kernel) ?_ (fun w' hw' => Or.inl ?_) (fun K hK => ?_) | refine mixsq rfl rfl 4 (by decide +kernel) ?_ (fun w' hw' => Or.inl ?_) (fun K hK => ?_) | refine mixsq rfl rfl 5 (by decide +kernel) ?_ (fun w' hw' => Or.inl ?_) (fun K hK => ?_) | refine mixsq rfl rfl 6 (by decide +kernel) ?_ (fun w' hw' => Or.inl ?_) (fun K hK => ?_) | refine mixsq rfl rfl 7 (by decide +kernel) ?_ (fun w' hw' => Or.inl ?_) (fun K hK => ?_)); rotate_left; (focus (go_simp; rfl)); go_simp; refine hK _ ?_; clear hK K
                refine mixs_nil ?_
                have hS := Lib.hid hS9
                clear hG hR hd0 hSd hCd hS2 hB20 hC20 hS9 hrp hch
                have hFr := hS.out.p2.free hM.out
                have hrn := hp.out.n0
                obtain ⟨fv, hfv⟩ : ∃ fv, Hid ((n : Int) - (cntT ((flipT T j)) n : Int) = fv) := ⟨_, Lib.hid rfl⟩
                rw [hfv.out] at hFr
                replace hFr := Lib.hid hFr
                go_wp2_with (with_reducible refine stop_load 29 ?_)
                refine Stop.mk (wpList_load_cells rfl rfl rfl (load_pool hS.out.qb) ?_)
                go_wp2_with fail
                refine hFr.out.mono ?_
                rintro e wf ⟨rfl, hbf⟩
                have hS := Lib.hid (hS.out.below hbf)
                have hrF := rFree_calls wf hS.out.sx.rp hrn.2
                rw [hfv.out] at hrF
                replace hrF := Lib.hid hrF
                clear hFr hbf
                go_wp2_with fail
                refine hrF.out.mono ?_
                rintro e wg ⟨rfl, rfl⟩
                clear hrF hfv
                go_wp2
                go_roundw
                case rel => exact ⟨i + 1, gt3, gb, cb, ba, ca, x, V2, (flipT T j), U, by omega, by go_num, rfl, rfl, hca, Lib.hid (hS.out.mono (by omega))⟩
                case measure => simp [RowKit.intOf]; omega
              | false =>
                have hG : Hid (∀ W, St w2 W gl g gt3 w.heap.size gr gb cb ba m n f ((i : Int) + 1) x V2 (T) T U U → Calls Try.prog 11 #[.agg #[.int .i64 (m : Int), .int .i64 f, .int .i64 (n : Int)], .pointer (some ⟨gt3, 0, none⟩), .int .i64 an] W (fun e w' => e = .returned (.int .i64 1) ∧ St w2 w' gl g gt3 w.heap.size gr gb cb ba m n f ((i : Int) + 1) x V2 (T) T U U)) := Lib.hid fun W hW => by
                  rw [hanj]
                  refine (hW.give hp.out hj).mono ?_
                  rintro e w' (⟨a, _⟩ | ⟨_, b, c⟩)
                  · rw [hTj] at a; cases a
                  · exact ⟨b, c⟩
                have hR : Hid (∀ W, RP W gr gb cb (m : Int) f n T → Calls Try.prog 23 #[.pointer (some ⟨gr, 0, none⟩), .int .i64 an] W (fun e w' => e = .returned (.int .i64 1) ∧ Below W.heap.size W w')) := Lib.hid fun W hW => by
                  rw [hanj]
                  refine (rGive_in W hW hrn.2 hp.out.f0 hj).mono ?_
                  rintro e w' (⟨a, _⟩ | ⟨_, b, c⟩)
                  · rw [hTj] at a; cases a
                  · exact ⟨b, c⟩
                clear hin hanj hTj hj
                go_wp2_with fail
                have hd0 : Below wr.heap.size wr wr.drew := (Below.refl _ _).drew
                have hSd := hS.out.below hd0
                have hCd : (fun U => Blk U w.heap.size 29 #[.int .i64 (m : Int), .int .i64 f, .int .i64 (n : Int)] ∧ U.cell? ⟨(ad.add (i * 2)).block, (ad.add (i * 2)).off + 1, none⟩ = some (.int .i64 an)) wr.drew := ⟨hSd.qb, hE.out _ (hBw.out.trans (hd0.mono hBw.out.size))⟩
                refine wp_mixs (fun U => Blk U w.heap.size 29 #[.int .i64 (m : Int), .int .i64 f, .int .i64 (n : Int)] ∧ U.cell? ⟨(ad.add (i * 2)).block, (ad.add (i * 2)).off + 1, none⟩ = some (.int .i64 an)) [7, 14] (by kernel_rfl) (by kernel_rfl) (by kernel_rfl) (by decide) hCd ?_
                (first | refine mixsq rfl rfl 0 (by decide +kernel) (.agg #[.int .i64 (m : Int), .int .i64 f, .int .i64 (n : Int)]) (fun w' hw' => Or.inl (exec_load rfl rfl (hld.out w' (And.left hw')))) (fun K hK => ?_) | refine mixsq rfl rfl 1 (by decide +kernel) (.agg #[.int .i64 (m : Int), .int .i64 f, .int .i64 (n : Int)]) (fun w' hw' => Or.inl (exec_load rfl rfl (hld.out w' (And.left hw')))) (fun K hK => ?_) | refine mixsq rfl rfl 2 (by decide +kernel) (.agg #[.int .i64 (m : Int), .int .i64 f, .int .i64 (n : Int)]) (fun w' hw' => Or.inl (exec_load rfl rfl (hld.out w' (And.left hw')))) (fun K hK => ?_) | refine mixsq rfl rfl 3 (by decide +kernel) (.agg #[.int .i64 (m : Int), .int .i64 f, .int .i64 (n : Int)]) (fun w' hw' => Or.inl (exec_load rfl rfl (hld.out w' (And.left hw')))) (fun K hK => ?_) | refine mixsq rfl rfl 4 (by decide +kernel) (.agg #[.int .i64 (m : Int), .int .i64 f, .int .i64 (n : Int)]) (fun w' hw' => Or.inl (exec_load rfl rfl (hld.out w' (And.left hw')))) (fun K hK => ?_)); go_simp; refine hK _ ?_; clear hK K
                iterate 6 ((first | refine mixsq rfl rfl 0 (by decide +kernel) ?_ (fun w' hw' => Or.inl ?_) (fun K hK => ?_) | refine mixsq rfl rfl 1 (by decide +kernel) ?_ (fun w' hw' => Or.inl ?_) (fun K hK => ?_) | refine mixsq rfl rfl 2 (by decide +kernel) ?_ (fun w' hw' => Or.inl ?_) (fun K hK => ?_) | refine mixsq rfl rfl 3 (by decide +kernel) ?_ (fun w' hw' => Or.inl ?_) (fun K hK => ?_) | refine mixsq rfl rfl 4 (by decide +kernel) ?_ (fun w' hw' => Or.inl ?_) (fun K hK => ?_) | refine mixsq rfl rfl 5 (by decide +kernel) ?_ (fun w' hw' => Or.inl ?_) (fun K hK => ?_) | refine mixsq rfl rfl 6 (by decide +kernel) ?_ (fun w' hw' => Or.inl ?_) (fun K hK => ?_) | refine mixsq rfl rfl 7 (by decide +kernel) ?_ (fun w' hw' => Or.inl ?_) (fun K hK => ?_)); rotate_left; (focus (have c9 := And.right hw'; go_simp; rfl)); go_simp; refine hK _ ?_; clear hK K)
                refine mixsl rfl rfl (fun K hK => ?_)
                go_simp
                refine (hG.out wr.drew hSd).mono ?_
                rintro e w20 ⟨rfl, hS2⟩
                have hB20 : Below w.heap.size w w20 := hB2.out.trans (hS2.p2.bel.mono hB2.out.size)
                have hC20 : (fun U => Blk U w.heap.size 29 #[.int .i64 (m : Int), .int .i64 f, .int .i64 (n : Int)] ∧ U.cell? ⟨(ad.add (i * 2)).block, (ad.add (i * 2)).off + 1, none⟩ = some (.int .i64 an)) w20 := ⟨hS2.qb, hE.out _ hB20⟩
                refine hK (fun U => Blk U w.heap.size 29 #[.int .i64 (m : Int), .int .i64 f, .int .i64 (n : Int)] ∧ U.cell? ⟨(ad.add (i * 2)).block, (ad.add (i * 2)).off + 1, none⟩ = some (.int .i64 an)) _ _ (fun _ => ⟨hC20, fun _ => hC20⟩) ?_
                clear hK K
                iterate 6 ((first | refine mixsq rfl rfl 0 (by decide +kernel) ?_ (fun w' hw' => Or.inl ?_) (fun K hK => ?_) | refine mixsq rfl rfl 1 (by decide +kernel) ?_ (fun w' hw' => Or.inl ?_) (fun K hK => ?_) | refine mixsq rfl rfl 2 (by decide +kernel) ?_ (fun w' hw' => Or.inl ?_) (fun K hK => ?_) | refine mixsq rfl rfl 3 (by decide +kernel) ?_ (fun w' hw' => Or.inl ?_) (fun K hK => ?_) | refine mixsq rfl rfl 4 (by decide +kernel) ?_ (fun w' hw' => Or.inl ?_) (fun K hK => ?_) | refine mixsq rfl rfl 5 (by decide +kernel) ?_ (fun w' hw' => Or.inl ?_) (fun K hK => ?_) | refine mixsq rfl rfl 6 (by decide +kernel) ?_ (fun w' hw' => Or.inl ?_) (fun K hK => ?_) | refine mixsq rfl rfl 7 (by decide +kernel) ?_ (fun w' hw' => Or.inl ?_) (fun K hK => ?_)); rotate_left; (focus (have c9 := And.right hw'; go_simp; rfl)); go_simp; refine hK _ ?_; clear hK K)
                refine mixsl rfl rfl (fun K hK => ?_)
                go_simp
                refine (hR.out w20 hS2.sx.rp).mono ?_
                rintro e w21 ⟨rfl, hb21⟩
                have hS9 := hS2.below hb21
                have hX9 : (fun U => Blk U w.heap.size 29 #[.int .i64 (m : Int), .int .i64 f, .int .i64 (n : Int)] ∧ U.cell? ⟨(ad.add (i * 2)).block, (ad.add (i * 2)).off + 1, none⟩ = some (.int .i64 an)) w21 := ⟨hS9.qb, hE.out _ (hB2.out.trans (hS9.p2.bel.mono hB2.out.size))⟩
                refine hK (fun _ => True) _ _ (fun _ => ⟨trivial, ext_all (fun _ => hX9) hX9⟩) ?_
                clear hK K
                (first | refine mixsq rfl rfl 0 (by decide +kernel) ?_ (fun w' hw' => Or.inl ?_) (fun K hK => ?_) | refine mixsq rfl rfl 1 (by decide +kernel) ?_ (fun w' hw' => Or.inl ?_) (fun K hK => ?_) | refine mixsq rfl rfl 2 (by decide +kernel) ?_ (fun w' hw' => Or.inl ?_) (fun K hK => ?_) | refine mixsq rfl rfl 3 (by decide +kernel) ?_ (fun w' hw' => Or.inl ?_) (fun K hK => ?_) | refine mixsq rfl rfl 4 (by decide +kernel) ?_ (fun w' hw' => Or.inl ?_) (fun K hK => ?_) | refine mixsq rfl rfl 5 (by decide +kernel) ?_ (fun w' hw' => Or.inl ?_) (fun K hK => ?_) | refine mixsq rfl rfl 6 (by decide +kernel) ?_ (fun w' hw' => Or.inl ?_) (fun K hK => ?_) | refine mixsq rfl rfl 7 (by decide +kernel) ?_ (fun w' hw' => Or.inl ?_) (fun K hK => ?_)); rotate_left; (focus (go_simp; rfl)); go_simp; refine hK _ ?_; clear hK K
                refine mixs_nil ?_
                have hS := Lib.hid hS9
                clear hG hR hd0 hSd hCd hS2 hB20 hC20 hS9 hb21
                have hFr := hS.out.p2.free hM.out
                have hrn := hp.out.n0
                obtain ⟨fv, hfv⟩ : ∃ fv, Hid ((n : Int) - (cntT (T) n : Int) = fv) := ⟨_, Lib.hid rfl⟩
                rw [hfv.out] at hFr
                replace hFr := Lib.hid hFr
                go_wp2_with (with_reducible refine stop_load 29 ?_)
                refine Stop.mk (wpList_load_cells rfl rfl rfl (load_pool hS.out.qb) ?_)
                go_wp2_with fail
                refine hFr.out.mono ?_
                rintro e wf ⟨rfl, hbf⟩
                have hS := Lib.hid (hS.out.below hbf)
                have hrF := rFree_calls wf hS.out.sx.rp hrn.2
                rw [hfv.out] at hrF
                replace hrF := Lib.hid hrF
                clear hFr hbf
                go_wp2_with fail
                refine hrF.out.mono ?_
                rintro e wg ⟨rfl, rfl⟩
                clear hrF hfv
                go_wp2
                go_roundw
                case rel => exact ⟨i + 1, gt3, gb, cb, ba, ca, x, V2, T, U, by omega, by go_num, rfl, rfl, hca, Lib.hid (hS.out.mono (by omega))⟩
                case measure => simp [RowKit.intOf]; omega
            · have hG : Hid (∀ W, St w2 W gl g gt3 w.heap.size gr gb cb ba m n f ((i : Int) + 1) x V2 (T) T U U → Calls Try.prog 11 #[.agg #[.int .i64 (m : Int), .int .i64 f, .int .i64 (n : Int)], .pointer (some ⟨gt3, 0, none⟩), .int .i64 an] W (fun e w' => e = .returned (.int .i64 1) ∧ St w2 w' gl g gt3 w.heap.size gr gb cb ba m n f ((i : Int) + 1) x V2 (T) T U U)) := Lib.hid fun W hW => by
                refine (hW.p2.give_out hM.out hwn.out (by omega)).mono ?_
                rintro e w' ⟨b, c⟩
                exact ⟨b, hW.below c⟩
              have hR : Hid (∀ W, RP W gr gb cb (m : Int) f n T → Calls Try.prog 23 #[.pointer (some ⟨gr, 0, none⟩), .int .i64 an] W (fun e w' => e = .returned (.int .i64 1) ∧ Below W.heap.size W w')) := Lib.hid fun W hW => by
                exact rGive_out W hW hp.out.f0.1 hwn.out hin
              clear hin
              go_wp2_with fail
              have hd0 : Below wr.heap.size wr wr.drew := (Below.refl _ _).drew
              have hSd := hS.out.below hd0
              have hCd : (fun U => Blk U w.heap.size 29 #[.int .i64 (m : Int), .int .i64 f, .int .i64 (n : Int)] ∧ U.cell? ⟨(ad.add (i * 2)).block, (ad.add (i * 2)).off + 1, none⟩ = some (.int .i64 an)) wr.drew := ⟨hSd.qb, hE.out _ (hBw.out.trans (hd0.mono hBw.out.size))⟩
              refine wp_mixs (fun U => Blk U w.heap.size 29 #[.int .i64 (m : Int), .int .i64 f, .int .i64 (n : Int)] ∧ U.cell? ⟨(ad.add (i * 2)).block, (ad.add (i * 2)).off + 1, none⟩ = some (.int .i64 an)) [7, 14] (by kernel_rfl) (by kernel_rfl) (by kernel_rfl) (by decide) hCd ?_
              (first | refine mixsq rfl rfl 0 (by decide +kernel) (.agg #[.int .i64 (m : Int), .int .i64 f, .int .i64 (n : Int)]) (fun w' hw' => Or.inl (exec_load rfl rfl (hld.out w' (And.left hw')))) (fun K hK => ?_) | refine mixsq rfl rfl 1 (by decide +kernel) (.agg #[.int .i64 (m : Int), .int .i64 f, .int .i64 (n : Int)]) (fun w' hw' => Or.inl (exec_load rfl rfl (hld.out w' (And.left hw')))) (fun K hK => ?_) | refine mixsq rfl rfl 2 (by decide +kernel) (.agg #[.int .i64 (m : Int), .int .i64 f, .int .i64 (n : Int)]) (fun w' hw' => Or.inl (exec_load rfl rfl (hld.out w' (And.left hw')))) (fun K hK => ?_) | refine mixsq rfl rfl 3 (by decide +kernel) (.agg #[.int .i64 (m : Int), .int .i64 f, .int .i64 (n : Int)]) (fun w' hw' => Or.inl (exec_load rfl rfl (hld.out w' (And.left hw')))) (fun K hK => ?_) | refine mixsq rfl rfl 4 (by decide +kernel) (.agg #[.int .i64 (m : Int), .int .i64 f, .int .i64 (n : Int)]) (fun w' hw' => Or.inl (exec_load rfl rfl (hld.out w' (And.left hw')))) (fun K hK => ?_)); go_simp; refine hK _ ?_; clear hK K
              iterate 6 ((first | refine mixsq rfl rfl 0 (by decide +kernel) ?_ (fun w' hw' => Or.inl ?_) (fun K hK => ?_) | refine mixsq rfl rfl 1 (by decide +kernel) ?_ (fun w' hw' => Or.inl ?_) (fun K hK => ?_) | refine mixsq rfl rfl 2 (by decide +kernel) ?_ (fun w' hw' => Or.inl ?_) (fun K hK => ?_) | refine mixsq rfl rfl 3 (by decide +kernel) ?_ (fun w' hw' => Or.inl ?_) (fun K hK => ?_) | refine mixsq rfl rfl 4 (by decide +kernel) ?_ (fun w' hw' => Or.inl ?_) (fun K hK => ?_) | refine mixsq rfl rfl 5 (by decide +kernel) ?_ (fun w' hw' => Or.inl ?_) (fun K hK => ?_) | refine mixsq rfl rfl 6 (by decide +kernel) ?_ (fun w' hw' => Or.inl ?_) (fun K hK => ?_) | refine mixsq rfl rfl 7 (by decide +kernel) ?_ (fun w' hw' => Or.inl ?_) (fun K hK => ?_)); rotate_left; (focus (have c9 := And.right hw'; go_simp; rfl)); go_simp; refine hK _ ?_; clear hK K)
              refine mixsl rfl rfl (fun K hK => ?_)
              go_simp
              refine (hG.out wr.drew hSd).mono ?_
              rintro e w20 ⟨rfl, hS2⟩
              have hB20 : Below w.heap.size w w20 := hB2.out.trans (hS2.p2.bel.mono hB2.out.size)
              have hC20 : (fun U => Blk U w.heap.size 29 #[.int .i64 (m : Int), .int .i64 f, .int .i64 (n : Int)] ∧ U.cell? ⟨(ad.add (i * 2)).block, (ad.add (i * 2)).off + 1, none⟩ = some (.int .i64 an)) w20 := ⟨hS2.qb, hE.out _ hB20⟩
              refine hK (fun U => Blk U w.heap.size 29 #[.int .i64 (m : Int), .int .i64 f, .int .i64 (n : Int)] ∧ U.cell? ⟨(ad.add (i * 2)).block, (ad.add (i * 2)).off + 1, none⟩ = some (.int .i64 an)) _ _ (fun _ => ⟨hC20, fun _ => hC20⟩) ?_
              clear hK K
              iterate 6 ((first | refine mixsq rfl rfl 0 (by decide +kernel) ?_ (fun w' hw' => Or.inl ?_) (fun K hK => ?_) | refine mixsq rfl rfl 1 (by decide +kernel) ?_ (fun w' hw' => Or.inl ?_) (fun K hK => ?_) | refine mixsq rfl rfl 2 (by decide +kernel) ?_ (fun w' hw' => Or.inl ?_) (fun K hK => ?_) | refine mixsq rfl rfl 3 (by decide +kernel) ?_ (fun w' hw' => Or.inl ?_) (fun K hK => ?_) | refine mixsq rfl rfl 4 (by decide +kernel) ?_ (fun w' hw' => Or.inl ?_) (fun K hK => ?_) | refine mixsq rfl rfl 5 (by decide +kernel) ?_ (fun w' hw' => Or.inl ?_) (fun K hK => ?_) | refine mixsq rfl rfl 6 (by decide +kernel) ?_ (fun w' hw' => Or.inl ?_) (fun K hK => ?_) | refine mixsq rfl rfl 7 (by decide +kernel) ?_ (fun w' hw' => Or.inl ?_) (fun K hK => ?_)); rotate_left; (focus (have c9 := And.right hw'; go_simp; rfl)); go_simp; refine hK _ ?_; clear hK K)
              refine mixsl rfl rfl (fun K hK => ?_)
              go_simp
              refine (hR.out w20 hS2.sx.rp).mono ?_
              rintro e w21 ⟨rfl, hb21⟩
              have hS9 := hS2.below hb21
              have hX9 : (fun U => Blk U w.heap.size 29 #[.int .i64 (m : Int), .int .i64 f, .int .i64 (n : Int)] ∧ U.cell? ⟨(ad.add (i * 2)).block, (ad.add (i * 2)).off + 1, none⟩ = some (.int .i64 an)) w21 := ⟨hS9.qb, hE.out _ (hB2.out.trans (hS9.p2.bel.mono hB2.out.size))⟩
              refine hK (fun _ => True) _ _ (fun _ => ⟨trivial, ext_all (fun _ => hX9) hX9⟩) ?_
              clear hK K
              (first | refine mixsq rfl rfl 0 (by decide +kernel) ?_ (fun w' hw' => Or.inl ?_) (fun K hK => ?_) | refine mixsq rfl rfl 1 (by decide +kernel) ?_ (fun w' hw' => Or.inl ?_) (fun K hK => ?_) | refine mixsq rfl rfl 2 (by decide +kernel) ?_ (fun w' hw' => Or.inl ?_) (fun K hK => ?_) | refine mixsq rfl rfl 3 (by decide +kernel) ?_ (fun w' hw' => Or.inl ?_) (fun K hK => ?_) | refine mixsq rfl rfl 4 (by decide +kernel) ?_ (fun w' hw' => Or.inl ?_) (fun K hK => ?_) | refine mixsq rfl rfl 5 (by decide +kernel) ?_ (fun w' hw' => Or.inl ?_) (fun K hK => ?_) | refine mixsq rfl rfl 6 (by decide +kernel) ?_ (fun w' hw' => Or.inl ?_) (fun K hK => ?_) | refine mixsq rfl rfl 7 (by decide +kernel) ?_ (fun w' hw' => Or.inl ?_) (fun K hK => ?_)); rotate_left; (focus (go_simp; rfl)); go_simp; refine hK _ ?_; clear hK K
              refine mixs_nil ?_
              have hS := Lib.hid hS9
              clear hG hR hd0 hSd hCd hS2 hB20 hC20 hS9 hb21
              have hFr := hS.out.p2.free hM.out
              have hrn := hp.out.n0
              obtain ⟨fv, hfv⟩ : ∃ fv, Hid ((n : Int) - (cntT (T) n : Int) = fv) := ⟨_, Lib.hid rfl⟩
              rw [hfv.out] at hFr
              replace hFr := Lib.hid hFr
              go_wp2_with (with_reducible refine stop_load 29 ?_)
              refine Stop.mk (wpList_load_cells rfl rfl rfl (load_pool hS.out.qb) ?_)
              go_wp2_with fail
              refine hFr.out.mono ?_
              rintro e wf ⟨rfl, hbf⟩
              have hS := Lib.hid (hS.out.below hbf)
              have hrF := rFree_calls wf hS.out.sx.rp hrn.2
              rw [hfv.out] at hrF
              replace hrF := Lib.hid hrF
              clear hFr hbf
              go_wp2_with fail
              refine hrF.out.mono ?_
              rintro e wg ⟨rfl, rfl⟩
              clear hrF hfv
              go_wp2
              go_roundw
              case rel => exact ⟨i + 1, gt3, gb, cb, ba, ca, x, V2, T, U, by omega, by go_num, rfl, rfl, hca, Lib.hid (hS.out.mono (by omega))⟩
              case measure => simp [RowKit.intOf]; omega
        by_cases h3 : ao = 3
        · subst h3
          as_aux_lemma =>
            have hrn := hp.out.n0
            by_cases hin : f ≤ an ∧ an - f < (n : Int)
            · obtain ⟨j, hj, hanj⟩ : ∃ j : Nat, j < n ∧ an = f + (j : Int) := ⟨(an - f).toNat, by omega, by omega⟩
              cases hTj : T j with
              | true =>
                have hH : Hid (∀ W, St w2 W gl g gt3 w.heap.size gr gb cb ba m n f ((i : Int) + 1) x V2 (T) T U U → Calls Try.prog 18 #[.agg #[.int .i64 (m : Int), .int .i64 f, .int .i64 (n : Int)], .pointer (some ⟨gt3, 0, none⟩), .int .i64 an] W (fun e w' => e = .returned (.tuple #[.bool true, .int .i64 0]) ∧ Below W.heap.size W w')) := Lib.hid fun W hW => by
                  rw [hanj]
                  have := hW.p2.has hM.out hj
                  rwa [hTj] at this
                have hIs : Hid (∀ W, RP W gr gb cb (m : Int) f n T → Calls Try.prog 24 #[.pointer (some ⟨gr, 0, none⟩), .int .i64 an] W (RightTo W true)) := Lib.hid fun W hW => by
                  have := rIs_calls W hW.blk (nn := an) hp.out.f0.1 hwn.out
                  rwa [decide_eq_true hin] at this
                clear hin
                replace hanj := Lib.hid hanj
                replace hTj := Lib.hid hTj
                replace hj := Lib.hid hj
                go_wp2_with fail
                have hd0 : Below wr.heap.size wr wr.drew := (Below.refl _ _).drew
                have hSd := hS.out.below hd0
                have hCd : (fun U => Blk U w.heap.size 29 #[.int .i64 (m : Int), .int .i64 f, .int .i64 (n : Int)] ∧ U.cell? ⟨(ad.add (i * 2)).block, (ad.add (i * 2)).off + 1, none⟩ = some (.int .i64 an)) wr.drew := ⟨hSd.qb, hE.out _ (hBw.out.trans (hd0.mono hBw.out.size))⟩
                refine wp_mixs (fun U => Blk U w.heap.size 29 #[.int .i64 (m : Int), .int .i64 f, .int .i64 (n : Int)] ∧ U.cell? ⟨(ad.add (i * 2)).block, (ad.add (i * 2)).off + 1, none⟩ = some (.int .i64 an)) [7] (by kernel_rfl) (by kernel_rfl) (by kernel_rfl) (by decide) hCd ?_
                (first | refine mixsq rfl rfl 0 (by decide +kernel) (.agg #[.int .i64 (m : Int), .int .i64 f, .int .i64 (n : Int)]) (fun w' hw' => Or.inl (exec_load rfl rfl (hld.out w' (And.left hw')))) (fun K hK => ?_) | refine mixsq rfl rfl 1 (by decide +kernel) (.agg #[.int .i64 (m : Int), .int .i64 f, .int .i64 (n : Int)]) (fun w' hw' => Or.inl (exec_load rfl rfl (hld.out w' (And.left hw')))) (fun K hK => ?_) | refine mixsq rfl rfl 2 (by decide +kernel) (.agg #[.int .i64 (m : Int), .int .i64 f, .int .i64 (n : Int)]) (fun w' hw' => Or.inl (exec_load rfl rfl (hld.out w' (And.left hw')))) (fun K hK => ?_) | refine mixsq rfl rfl 3 (by decide +kernel) (.agg #[.int .i64 (m : Int), .int .i64 f, .int .i64 (n : Int)]) (fun w' hw' => Or.inl (exec_load rfl rfl (hld.out w' (And.left hw')))) (fun K hK => ?_) | refine mixsq rfl rfl 4 (by decide +kernel) (.agg #[.int .i64 (m : Int), .int .i64 f, .int .i64 (n : Int)]) (fun w' hw' => Or.inl (exec_load rfl rfl (hld.out w' (And.left hw')))) (fun K hK => ?_)); go_simp; refine hK _ ?_; clear hK K
                iterate 6 ((first | refine mixsq rfl rfl 0 (by decide +kernel) ?_ (fun w' hw' => Or.inl ?_) (fun K hK => ?_) | refine mixsq rfl rfl 1 (by decide +kernel) ?_ (fun w' hw' => Or.inl ?_) (fun K hK => ?_) | refine mixsq rfl rfl 2 (by decide +kernel) ?_ (fun w' hw' => Or.inl ?_) (fun K hK => ?_) | refine mixsq rfl rfl 3 (by decide +kernel) ?_ (fun w' hw' => Or.inl ?_) (fun K hK => ?_) | refine mixsq rfl rfl 4 (by decide +kernel) ?_ (fun w' hw' => Or.inl ?_) (fun K hK => ?_) | refine mixsq rfl rfl 5 (by decide +kernel) ?_ (fun w' hw' => Or.inl ?_) (fun K hK => ?_) | refine mixsq rfl rfl 6 (by decide +kernel) ?_ (fun w' hw' => Or.inl ?_) (fun K hK => ?_) | refine mixsq rfl rfl 7 (by decide +kernel) ?_ (fun w' hw' => Or.inl ?_) (fun K hK => ?_)); rotate_left; (focus (have c9 := And.right hw'; go_simp; rfl)); go_simp; refine hK _ ?_; clear hK K)
                refine mixsl rfl rfl (fun K hK => ?_)
                go_simp
                refine (hH.out wr.drew hSd).mono ?_
                rintro e w20 ⟨rfl, hb20⟩
                have hS2 := hSd.below hb20
                have hX9 : (fun U => Blk U w.heap.size 29 #[.int .i64 (m : Int), .int .i64 f, .int .i64 (n : Int)] ∧ U.cell? ⟨(ad.add (i * 2)).block, (ad.add (i * 2)).off + 1, none⟩ = some (.int .i64 an)) w20 := ⟨hS2.qb, hE.out _ (hB2.out.trans (hS2.p2.bel.mono hB2.out.size))⟩
                refine hK (fun _ => True) _ _ (fun _ => ⟨trivial, fun _ => hX9⟩) ?_
                clear hK K
                iterate 5 ((first | refine mixsq rfl rfl 0 (by decide +kernel) ?_ (fun w' hw' => Or.inl ?_) (fun K hK => ?_) | refine mixsq rfl rfl 1 (by decide +kernel) ?_ (fun w' hw' => Or.inl ?_) (fun K hK => ?_) | refine mixsq rfl rfl 2 (by decide +kernel) ?_ (fun w' hw' => Or.inl ?_) (fun K hK => ?_) | refine mixsq rfl rfl 3 (by decide +kernel) ?_ (fun w' hw' => Or.inl ?_) (fun K hK => ?_) | refine mixsq rfl rfl 4 (by decide +kernel) ?_ (fun w' hw' => Or.inl ?_) (fun K hK => ?_) | refine mixsq rfl rfl 5 (by decide +kernel) ?_ (fun w' hw' => Or.inl ?_) (fun K hK => ?_) | refine mixsq rfl rfl 6 (by decide +kernel) ?_ (fun w' hw' => Or.inl ?_) (fun K hK => ?_) | refine mixsq rfl rfl 7 (by decide +kernel) ?_ (fun w' hw' => Or.inl ?_) (fun K hK => ?_)); rotate_left; (focus (go_simp; rfl)); go_simp; refine hK _ ?_; clear hK K)
                refine mixs_nil ?_
                have hS := Lib.hid hS2
                have hB20 := Lib.hid (hB2.out.trans (hS2.p2.bel.mono hB2.out.size))
                have c9 := hE.out w20 hB20.out
                clear hH hd0 hSd hCd hS2 hb20 hX9
                go_wp2_with fail
                refine (hIs.out w20 hS.out.sx.rp).mono ?_
                rintro e w21 ⟨rfl, hb21⟩
                have hS := Lib.hid (hS.out.below hb21)
                clear hIs c9
                have hB21 := Lib.hid (hB2.out.trans (hS.out.p2.bel.mono hB2.out.size))
                have c9 := hE.out w21 hB21.out
                have b3 : w21.cell? ⟨gr, 3, none⟩ = some (.slice (some ⟨gb, 0, none⟩) n cb) := hS.out.sx.rp.blk.cell 3
                have b1 : w21.cell? ⟨gr, 1, none⟩ = some (.int .i64 f) := hS.out.sx.rp.blk.cell 1
                have bj := hS.out.sx.rp.at_ hj.out
                rw [hTj.out] at bj
                have hwr : IntKind.i64.wrap (an - f) = (j : Int) := by rw [IntKind.wrap_i64, hanj.out]; have := hp.out.f0; have := hj.out; omega
                have hjn : (j : Int) < (n : Int) := by have := hj.out; omega
                clear hanj hj hTj
                go_wp2_with fail
                go_quiet (fail)
                obtain ⟨w22, hw22⟩ : ∃ x, x = w21.drewN nq := ⟨_, rfl⟩
                rw [← hw22]
                have hS := Lib.hid (hS.out.below (hw22 ▸ below_drewN (Below.refl _ _) _))
                clear hw22 c9 b3 b1 bj hwr hjn hB21
                have hFr := hS.out.p2.free hM.out
                have hrn := hp.out.n0
                obtain ⟨fv, hfv⟩ : ∃ fv, Hid ((n : Int) - (cntT (T) n : Int) = fv) := ⟨_, Lib.hid rfl⟩
                rw [hfv.out] at hFr
                replace hFr := Lib.hid hFr
                go_wp2_with (with_reducible refine stop_load 29 ?_)
                refine Stop.mk (wpList_load_cells rfl rfl rfl (load_pool hS.out.qb) ?_)
                go_wp2_with fail
                refine hFr.out.mono ?_
                rintro e wf ⟨rfl, hbf⟩
                have hS := Lib.hid (hS.out.below hbf)
                have hrF := rFree_calls wf hS.out.sx.rp hrn.2
                rw [hfv.out] at hrF
                replace hrF := Lib.hid hrF
                clear hFr hbf
                go_wp2_with fail
                refine hrF.out.mono ?_
                rintro e wg ⟨rfl, rfl⟩
                clear hrF hfv
                go_wp2
                go_roundw
                case rel => exact ⟨i + 1, gt3, gb, cb, ba, ca, x, V2, T, U, by omega, by go_num, rfl, rfl, hca, Lib.hid (hS.out.mono (by omega))⟩
                case measure => simp [RowKit.intOf]; omega
              | false =>
                have hH : Hid (∀ W, St w2 W gl g gt3 w.heap.size gr gb cb ba m n f ((i : Int) + 1) x V2 (T) T U U → Calls Try.prog 18 #[.agg #[.int .i64 (m : Int), .int .i64 f, .int .i64 (n : Int)], .pointer (some ⟨gt3, 0, none⟩), .int .i64 an] W (fun e w' => e = .returned (.tuple #[.bool false, .int .i64 0]) ∧ Below W.heap.size W w')) := Lib.hid fun W hW => by
                  rw [hanj]
                  have := hW.p2.has hM.out hj
                  rwa [hTj] at this
                have hIs : Hid (∀ W, RP W gr gb cb (m : Int) f n T → Calls Try.prog 24 #[.pointer (some ⟨gr, 0, none⟩), .int .i64 an] W (RightTo W true)) := Lib.hid fun W hW => by
                  have := rIs_calls W hW.blk (nn := an) hp.out.f0.1 hwn.out
                  rwa [decide_eq_true hin] at this
                clear hin
                replace hanj := Lib.hid hanj
                replace hTj := Lib.hid hTj
                replace hj := Lib.hid hj
                go_wp2_with fail
                have hd0 : Below wr.heap.size wr wr.drew := (Below.refl _ _).drew
                have hSd := hS.out.below hd0
                have hCd : (fun U => Blk U w.heap.size 29 #[.int .i64 (m : Int), .int .i64 f, .int .i64 (n : Int)] ∧ U.cell? ⟨(ad.add (i * 2)).block, (ad.add (i * 2)).off + 1, none⟩ = some (.int .i64 an)) wr.drew := ⟨hSd.qb, hE.out _ (hBw.out.trans (hd0.mono hBw.out.size))⟩
                refine wp_mixs (fun U => Blk U w.heap.size 29 #[.int .i64 (m : Int), .int .i64 f, .int .i64 (n : Int)] ∧ U.cell? ⟨(ad.add (i * 2)).block, (ad.add (i * 2)).off + 1, none⟩ = some (.int .i64 an)) [7] (by kernel_rfl) (by kernel_rfl) (by kernel_rfl) (by decide) hCd ?_
                (first | refine mixsq rfl rfl 0 (by decide +kernel) (.agg #[.int .i64 (m : Int), .int .i64 f, .int .i64 (n : Int)]) (fun w' hw' => Or.inl (exec_load rfl rfl (hld.out w' (And.left hw')))) (fun K hK => ?_) | refine mixsq rfl rfl 1 (by decide +kernel) (.agg #[.int .i64 (m : Int), .int .i64 f, .int .i64 (n : Int)]) (fun w' hw' => Or.inl (exec_load rfl rfl (hld.out w' (And.left hw')))) (fun K hK => ?_) | refine mixsq rfl rfl 2 (by decide +kernel) (.agg #[.int .i64 (m : Int), .int .i64 f, .int .i64 (n : Int)]) (fun w' hw' => Or.inl (exec_load rfl rfl (hld.out w' (And.left hw')))) (fun K hK => ?_) | refine mixsq rfl rfl 3 (by decide +kernel) (.agg #[.int .i64 (m : Int), .int .i64 f, .int .i64 (n : Int)]) (fun w' hw' => Or.inl (exec_load rfl rfl (hld.out w' (And.left hw')))) (fun K hK => ?_) | refine mixsq rfl rfl 4 (by decide +kernel) (.agg #[.int .i64 (m : Int), .int .i64 f, .int .i64 (n : Int)]) (fun w' hw' => Or.inl (exec_load rfl rfl (hld.out w' (And.left hw')))) (fun K hK => ?_)); go_simp; refine hK _ ?_; clear hK K
                iterate 6 ((first | refine mixsq rfl rfl 0 (by decide +kernel) ?_ (fun w' hw' => Or.inl ?_) (fun K hK => ?_) | refine mixsq rfl rfl 1 (by decide +kernel) ?_ (fun w' hw' => Or.inl ?_) (fun K hK => ?_) | refine mixsq rfl rfl 2 (by decide +kernel) ?_ (fun w' hw' => Or.inl ?_) (fun K hK => ?_) | refine mixsq rfl rfl 3 (by decide +kernel) ?_ (fun w' hw' => Or.inl ?_) (fun K hK => ?_) | refine mixsq rfl rfl 4 (by decide +kernel) ?_ (fun w' hw' => Or.inl ?_) (fun K hK => ?_) | refine mixsq rfl rfl 5 (by decide +kernel) ?_ (fun w' hw' => Or.inl ?_) (fun K hK => ?_) | refine mixsq rfl rfl 6 (by decide +kernel) ?_ (fun w' hw' => Or.inl ?_) (fun K hK => ?_) | refine mixsq rfl rfl 7 (by decide +kernel) ?_ (fun w' hw' => Or.inl ?_) (fun K hK => ?_)); rotate_left; (focus (have c9 := And.right hw'; go_simp; rfl)); go_simp; refine hK _ ?_; clear hK K)
                refine mixsl rfl rfl (fun K hK => ?_)
                go_simp
                refine (hH.out wr.drew hSd).mono ?_
                rintro e w20 ⟨rfl, hb20⟩
                have hS2 := hSd.below hb20
                have hX9 : (fun U => Blk U w.heap.size 29 #[.int .i64 (m : Int), .int .i64 f, .int .i64 (n : Int)] ∧ U.cell? ⟨(ad.add (i * 2)).block, (ad.add (i * 2)).off + 1, none⟩ = some (.int .i64 an)) w20 := ⟨hS2.qb, hE.out _ (hB2.out.trans (hS2.p2.bel.mono hB2.out.size))⟩
                refine hK (fun _ => True) _ _ (fun _ => ⟨trivial, fun _ => hX9⟩) ?_
                clear hK K
                iterate 5 ((first | refine mixsq rfl rfl 0 (by decide +kernel) ?_ (fun w' hw' => Or.inl ?_) (fun K hK => ?_) | refine mixsq rfl rfl 1 (by decide +kernel) ?_ (fun w' hw' => Or.inl ?_) (fun K hK => ?_) | refine mixsq rfl rfl 2 (by decide +kernel) ?_ (fun w' hw' => Or.inl ?_) (fun K hK => ?_) | refine mixsq rfl rfl 3 (by decide +kernel) ?_ (fun w' hw' => Or.inl ?_) (fun K hK => ?_) | refine mixsq rfl rfl 4 (by decide +kernel) ?_ (fun w' hw' => Or.inl ?_) (fun K hK => ?_) | refine mixsq rfl rfl 5 (by decide +kernel) ?_ (fun w' hw' => Or.inl ?_) (fun K hK => ?_) | refine mixsq rfl rfl 6 (by decide +kernel) ?_ (fun w' hw' => Or.inl ?_) (fun K hK => ?_) | refine mixsq rfl rfl 7 (by decide +kernel) ?_ (fun w' hw' => Or.inl ?_) (fun K hK => ?_)); rotate_left; (focus (go_simp; rfl)); go_simp; refine hK _ ?_; clear hK K)
                refine mixs_nil ?_
                have hS := Lib.hid hS2
                have hB20 := Lib.hid (hB2.out.trans (hS2.p2.bel.mono hB2.out.size))
                have c9 := hE.out w20 hB20.out
                clear hH hd0 hSd hCd hS2 hb20 hX9
                go_wp2_with fail
                refine (hIs.out w20 hS.out.sx.rp).mono ?_
                rintro e w21 ⟨rfl, hb21⟩
                have hS := Lib.hid (hS.out.below hb21)
                clear hIs c9
                have hB21 := Lib.hid (hB2.out.trans (hS.out.p2.bel.mono hB2.out.size))
                have c9 := hE.out w21 hB21.out
                have b3 : w21.cell? ⟨gr, 3, none⟩ = some (.slice (some ⟨gb, 0, none⟩) n cb) := hS.out.sx.rp.blk.cell 3
                have b1 : w21.cell? ⟨gr, 1, none⟩ = some (.int .i64 f) := hS.out.sx.rp.blk.cell 1
                have bj := hS.out.sx.rp.at_ hj.out
                rw [hTj.out] at bj
                have hwr : IntKind.i64.wrap (an - f) = (j : Int) := by rw [IntKind.wrap_i64, hanj.out]; have := hp.out.f0; have := hj.out; omega
                have hjn : (j : Int) < (n : Int) := by have := hj.out; omega
                clear hanj hj hTj
                go_wp2_with fail
                go_quiet (fail)
                obtain ⟨w22, hw22⟩ : ∃ x, x = w21.drewN nq := ⟨_, rfl⟩
                rw [← hw22]
                have hS := Lib.hid (hS.out.below (hw22 ▸ below_drewN (Below.refl _ _) _))
                clear hw22 c9 b3 b1 bj hwr hjn hB21
                have hFr := hS.out.p2.free hM.out
                have hrn := hp.out.n0
                obtain ⟨fv, hfv⟩ : ∃ fv, Hid ((n : Int) - (cntT (T) n : Int) = fv) := ⟨_, Lib.hid rfl⟩
                rw [hfv.out] at hFr
                replace hFr := Lib.hid hFr
                go_wp2_with (with_reducible refine stop_load 29 ?_)
                refine Stop.mk (wpList_load_cells rfl rfl rfl (load_pool hS.out.qb) ?_)
                go_wp2_with fail
                refine hFr.out.mono ?_
                rintro e wf ⟨rfl, hbf⟩
                have hS := Lib.hid (hS.out.below hbf)
                have hrF := rFree_calls wf hS.out.sx.rp hrn.2
                rw [hfv.out] at hrF
                replace hrF := Lib.hid hrF
                clear hFr hbf
                go_wp2_with fail
                refine hrF.out.mono ?_
                rintro e wg ⟨rfl, rfl⟩
                clear hrF hfv
                go_wp2
                go_roundw
                case rel => exact ⟨i + 1, gt3, gb, cb, ba, ca, x, V2, T, U, by omega, by go_num, rfl, rfl, hca, Lib.hid (hS.out.mono (by omega))⟩
                case measure => simp [RowKit.intOf]; omega
            · have hH : Hid (∀ W, St w2 W gl g gt3 w.heap.size gr gb cb ba m n f ((i : Int) + 1) x V2 (T) T U U → Calls Try.prog 18 #[.agg #[.int .i64 (m : Int), .int .i64 f, .int .i64 (n : Int)], .pointer (some ⟨gt3, 0, none⟩), .int .i64 an] W (fun e w' => e = .returned (.tuple #[.bool false, .int .i64 1]) ∧ Below W.heap.size W w')) := Lib.hid fun W hW => by
                exact hW.p2.has_out hM.out hwn.out (by omega)
              have hIs : Hid (∀ W, RP W gr gb cb (m : Int) f n T → Calls Try.prog 24 #[.pointer (some ⟨gr, 0, none⟩), .int .i64 an] W (RightTo W false)) := Lib.hid fun W hW => by
                have := rIs_calls W hW.blk (nn := an) hp.out.f0.1 hwn.out
                rwa [decide_eq_false hin] at this
              clear hin
              go_wp2_with fail
              have hd0 : Below wr.heap.size wr wr.drew := (Below.refl _ _).drew
              have hSd := hS.out.below hd0
              have hCd : (fun U => Blk U w.heap.size 29 #[.int .i64 (m : Int), .int .i64 f, .int .i64 (n : Int)] ∧ U.cell? ⟨(ad.add (i * 2)).block, (ad.add (i * 2)).off + 1, none⟩ = some (.int .i64 an)) wr.drew := ⟨hSd.qb, hE.out _ (hBw.out.trans (hd0.mono hBw.out.size))⟩
              refine wp_mixs (fun U => Blk U w.heap.size 29 #[.int .i64 (m : Int), .int .i64 f, .int .i64 (n : Int)] ∧ U.cell? ⟨(ad.add (i * 2)).block, (ad.add (i * 2)).off + 1, none⟩ = some (.int .i64 an)) [7] (by kernel_rfl) (by kernel_rfl) (by kernel_rfl) (by decide) hCd ?_
              (first | refine mixsq rfl rfl 0 (by decide +kernel) (.agg #[.int .i64 (m : Int), .int .i64 f, .int .i64 (n : Int)]) (fun w' hw' => Or.inl (exec_load rfl rfl (hld.out w' (And.left hw')))) (fun K hK => ?_) | refine mixsq rfl rfl 1 (by decide +kernel) (.agg #[.int .i64 (m : Int), .int .i64 f, .int .i64 (n : Int)]) (fun w' hw' => Or.inl (exec_load rfl rfl (hld.out w' (And.left hw')))) (fun K hK => ?_) | refine mixsq rfl rfl 2 (by decide +kernel) (.agg #[.int .i64 (m : Int), .int .i64 f, .int .i64 (n : Int)]) (fun w' hw' => Or.inl (exec_load rfl rfl (hld.out w' (And.left hw')))) (fun K hK => ?_) | refine mixsq rfl rfl 3 (by decide +kernel) (.agg #[.int .i64 (m : Int), .int .i64 f, .int .i64 (n : Int)]) (fun w' hw' => Or.inl (exec_load rfl rfl (hld.out w' (And.left hw')))) (fun K hK => ?_) | refine mixsq rfl rfl 4 (by decide +kernel) (.agg #[.int .i64 (m : Int), .int .i64 f, .int .i64 (n : Int)]) (fun w' hw' => Or.inl (exec_load rfl rfl (hld.out w' (And.left hw')))) (fun K hK => ?_)); go_simp; refine hK _ ?_; clear hK K
              iterate 6 ((first | refine mixsq rfl rfl 0 (by decide +kernel) ?_ (fun w' hw' => Or.inl ?_) (fun K hK => ?_) | refine mixsq rfl rfl 1 (by decide +kernel) ?_ (fun w' hw' => Or.inl ?_) (fun K hK => ?_) | refine mixsq rfl rfl 2 (by decide +kernel) ?_ (fun w' hw' => Or.inl ?_) (fun K hK => ?_) | refine mixsq rfl rfl 3 (by decide +kernel) ?_ (fun w' hw' => Or.inl ?_) (fun K hK => ?_) | refine mixsq rfl rfl 4 (by decide +kernel) ?_ (fun w' hw' => Or.inl ?_) (fun K hK => ?_) | refine mixsq rfl rfl 5 (by decide +kernel) ?_ (fun w' hw' => Or.inl ?_) (fun K hK => ?_) | refine mixsq rfl rfl 6 (by decide +kernel) ?_ (fun w' hw' => Or.inl ?_) (fun K hK => ?_) | refine mixsq rfl rfl 7 (by decide +kernel) ?_ (fun w' hw' => Or.inl ?_) (fun K hK => ?_)); rotate_left; (focus (have c9 := And.right hw'; go_simp; rfl)); go_simp; refine hK _ ?_; clear hK K)
              refine mixsl rfl rfl (fun K hK => ?_)
              go_simp
              refine (hH.out wr.drew hSd).mono ?_
              rintro e w20 ⟨rfl, hb20⟩
              have hS2 := hSd.below hb20
              have hX9 : (fun U => Blk U w.heap.size 29 #[.int .i64 (m : Int), .int .i64 f, .int .i64 (n : Int)] ∧ U.cell? ⟨(ad.add (i * 2)).block, (ad.add (i * 2)).off + 1, none⟩ = some (.int .i64 an)) w20 := ⟨hS2.qb, hE.out _ (hB2.out.trans (hS2.p2.bel.mono hB2.out.size))⟩
              refine hK (fun _ => True) _ _ (fun _ => ⟨trivial, fun _ => hX9⟩) ?_
              clear hK K
              iterate 5 ((first | refine mixsq rfl rfl 0 (by decide +kernel) ?_ (fun w' hw' => Or.inl ?_) (fun K hK => ?_) | refine mixsq rfl rfl 1 (by decide +kernel) ?_ (fun w' hw' => Or.inl ?_) (fun K hK => ?_) | refine mixsq rfl rfl 2 (by decide +kernel) ?_ (fun w' hw' => Or.inl ?_) (fun K hK => ?_) | refine mixsq rfl rfl 3 (by decide +kernel) ?_ (fun w' hw' => Or.inl ?_) (fun K hK => ?_) | refine mixsq rfl rfl 4 (by decide +kernel) ?_ (fun w' hw' => Or.inl ?_) (fun K hK => ?_) | refine mixsq rfl rfl 5 (by decide +kernel) ?_ (fun w' hw' => Or.inl ?_) (fun K hK => ?_) | refine mixsq rfl rfl 6 (by decide +kernel) ?_ (fun w' hw' => Or.inl ?_) (fun K hK => ?_) | refine mixsq rfl rfl 7 (by decide +kernel) ?_ (fun w' hw' => Or.inl ?_) (fun K hK => ?_)); rotate_left; (focus (go_simp; rfl)); go_simp; refine hK _ ?_; clear hK K)
              refine mixs_nil ?_
              have hS := Lib.hid hS2
              have hB20 := Lib.hid (hB2.out.trans (hS2.p2.bel.mono hB2.out.size))
              have c9 := hE.out w20 hB20.out
              clear hH hd0 hSd hCd hS2 hb20 hX9
              go_wp2_with fail
              refine (hIs.out w20 hS.out.sx.rp).mono ?_
              rintro e w21 ⟨rfl, hb21⟩
              have hS := Lib.hid (hS.out.below hb21)
              clear hIs c9
              have hFr := hS.out.p2.free hM.out
              have hrn := hp.out.n0
              obtain ⟨fv, hfv⟩ : ∃ fv, Hid ((n : Int) - (cntT (T) n : Int) = fv) := ⟨_, Lib.hid rfl⟩
              rw [hfv.out] at hFr
              replace hFr := Lib.hid hFr
              go_wp2_with (with_reducible refine stop_load 29 ?_)
              refine Stop.mk (wpList_load_cells rfl rfl rfl (load_pool hS.out.qb) ?_)
              go_wp2_with fail
              refine hFr.out.mono ?_
              rintro e wf ⟨rfl, hbf⟩
              have hS := Lib.hid (hS.out.below hbf)
              have hrF := rFree_calls wf hS.out.sx.rp hrn.2
              rw [hfv.out] at hrF
              replace hrF := Lib.hid hrF
              clear hFr hbf
              go_wp2_with fail
              refine hrF.out.mono ?_
              rintro e wg ⟨rfl, rfl⟩
              clear hrF hfv
              go_wp2
              go_roundw
              case rel => exact ⟨i + 1, gt3, gb, cb, ba, ca, x, V2, T, U, by omega, by go_num, rfl, rfl, hca, Lib.hid (hS.out.mono (by omega))⟩
              case measure => simp [RowKit.intOf]; omega
        by_cases h4 : ao = 4
        · subst h4
          as_aux_lemma =>
            have hT1 := Lib.hid (hS.out.clear hp.out)
            have hrn := hp.out.n0
            go_wp2_with (with_reducible refine stop_load 29 ?_)
            refine Stop.mk (wpList_load_cells rfl rfl rfl (load_pool hS.out.qb) ?_)
            go_wp2_with fail
            refine hT1.out.mono ?_
            rintro e w20 ⟨rfl, hS2⟩
            have hR := Lib.hid (rClear_calls w20 hS2.sx.rp.blk hrn.2)
            have hS2 := Lib.hid hS2
            clear hT1 hS
            go_wp2_with fail
            refine hR.out.mono ?_
            rintro e w21 ⟨rfl, gb2, g1, g2, hrp, hch⟩
            have hS := Lib.hid (hS2.out.rerow hch ⟨g1, g2⟩ (Nat.le_refl n) hrp)
            clear hR hrp hch hS2
            have hFr := hS.out.p2.free hM.out
            have hrn := hp.out.n0
            obtain ⟨fv, hfv⟩ : ∃ fv, Hid ((n : Int) - (cntT ((fun _ => false)) n : Int) = fv) := ⟨_, Lib.hid rfl⟩
            rw [hfv.out] at hFr
            replace hFr := Lib.hid hFr
            go_wp2_with (with_reducible refine stop_load 29 ?_)
            refine Stop.mk (wpList_load_cells rfl rfl rfl (load_pool hS.out.qb) ?_)
            go_wp2_with fail
            refine hFr.out.mono ?_
            rintro e wf ⟨rfl, hbf⟩
            have hS := Lib.hid (hS.out.below hbf)
            have hrF := rFree_calls wf hS.out.sx.rp hrn.2
            rw [hfv.out] at hrF
            replace hrF := Lib.hid hrF
            clear hFr hbf
            go_wp2_with fail
            refine hrF.out.mono ?_
            rintro e wg ⟨rfl, rfl⟩
            clear hrF hfv
            go_wp2
            go_roundw
            case rel => exact ⟨i + 1, gt3, gb2, n, ba, ca, x, V2, (fun _ => false), U, by omega, by go_num, rfl, rfl, hca, Lib.hid (hS.out.mono (by omega))⟩
            case measure => simp [RowKit.intOf]; omega
        by_cases h5 : ao = 5
        · subst h5
          as_aux_lemma =>
            have hT1 := Lib.hid (hS.out.commit hp.out ⟨by omega, by omega⟩)
            go_wp2_with fail
            refine hT1.out.mono ?_
            rintro e w20 ⟨rfl, y, V3, hSm⟩
            have hBg := Lib.hid (hSm.begin_)
            clear hT1 hSm hS
            go_wp2_with fail
            refine hBg.out.mono ?_
            rintro e w21 ⟨gt4, x3, rfl, hS⟩
            have hS := Lib.hid hS
            clear hBg
            have hrow := Lib.hid (own_empty w21 4)
            have hrd := Lib.hid ((RB.rd hS.out.sx.rp.row hS.out.sx.cbn).below ((Below.refl w21.heap.size w21).alloc (Nat.le_refl _) (.cells #[] 4)))
            have c3 : w21.cell? ⟨gr, 3, none⟩ = some (.slice (some ⟨gb, 0, none⟩) n cb) := (hS.out.sx.rp).blk.cell 3
            have c3b : (w21.alloc (.cells #[] 4)).cell? ⟨gr, 3, none⟩ = some (.slice (some ⟨gb, 0, none⟩) n cb) := ((hS.out.sx.rp).blk.alloc (.cells #[] 4)).cell 3
            have nne : gr ≠ w21.heap.size := Nat.ne_of_lt (hS.out.sx.rp).blk.lt
            obtain ⟨ib, hi0, hz0, hz1, hz2⟩ := info_parts Try.info_bool
            go_wp2_with (at_builtin; refine stop_app rfl ?_)
            refine Stop.mk (wpList_app _ rfl rfl (us := bvl n T) (base := 0) Try.underlying34 hi0 hz0 hz1 hz2 rfl hrow.out rfl hrd.out rfl (bvl_one _ _) ?_ ?_ (Nat.zero_le _) ?_)
            · unfold maxLen; rw [bvl_len]; have := hp.out.n0; omega
            · rw [bvl_len]; have := hp.out.n0; omega
            intro v9 w22 hown hg hat
            obtain ⟨ba2, ca2, rfl, hca, hRB, hb13, k1, k2⟩ := app_done hown hg hat hp.out.n0.1
            clear hrow hrd c3 c3b nne hi0 hz0 hz1 hz2 hown hg hat
            have hS := Lib.hid (hS.out.was hb13 ⟨k1, k2⟩ hRB)
            replace hca := Lib.hid hca
            clear hb13 k1 k2 hRB
            have hFr := hS.out.p2.free hM.out
            have hrn := hp.out.n0
            obtain ⟨fv, hfv⟩ : ∃ fv, Hid ((n : Int) - (cntT (T) n : Int) = fv) := ⟨_, Lib.hid rfl⟩
            rw [hfv.out] at hFr
            replace hFr := Lib.hid hFr
            go_wp2_with (with_reducible refine stop_load 29 ?_)
            refine Stop.mk (wpList_load_cells rfl rfl rfl (load_pool hS.out.qb) ?_)
            go_wp2_with fail
            refine hFr.out.mono ?_
            rintro e wf ⟨rfl, hbf⟩
            have hS := Lib.hid (hS.out.below hbf)
            have hrF := rFree_calls wf hS.out.sx.rp hrn.2
            rw [hfv.out] at hrF
            replace hrF := Lib.hid hrF
            clear hFr hbf
            go_wp2_with fail
            refine hrF.out.mono ?_
            rintro e wg ⟨rfl, rfl⟩
            clear hrF hfv
            go_wp2
            go_roundw
            case rel => exact ⟨i + 1, gt4, gb, cb, ba2, ca2, x3, V3, T, T, by omega, by go_num, rfl, rfl, hca, Lib.hid (hS.out.mono (by omega))⟩
            case measure => simp [RowKit.intOf]; omega
        by_cases h6 : ao = 6
        · subst h6
          as_aux_lemma =>
            have hT1 := Lib.hid (hS.out.abort)
            go_wp2_with fail
            refine hT1.out.mono ?_
            rintro e w20 ⟨rfl, y, V3, hSm⟩
            have hBg := Lib.hid (hSm.begin_)
            clear hT1 hSm hS
            go_wp2_with fail
            refine hBg.out.mono ?_
            rintro e w21 ⟨gt4, x3, rfl, hS⟩
            have hS := Lib.hid hS
            clear hBg
            have hrow := Lib.hid (own_empty w21 4)
            have hrd := Lib.hid ((hS.out.sx.wb.rd hca.out).below ((Below.refl w21.heap.size w21).alloc (Nat.le_refl _) (.cells #[] 4)))
            have c3 : w21.cell? ⟨gr, 3, none⟩ = some (.slice (some ⟨gb, 0, none⟩) n cb) := (hS.out.sx.rp).blk.cell 3
            have c3b : (w21.alloc (.cells #[] 4)).cell? ⟨gr, 3, none⟩ = some (.slice (some ⟨gb, 0, none⟩) n cb) := ((hS.out.sx.rp).blk.alloc (.cells #[] 4)).cell 3
            have nne : gr ≠ w21.heap.size := Nat.ne_of_lt (hS.out.sx.rp).blk.lt
            obtain ⟨ib, hi0, hz0, hz1, hz2⟩ := info_parts Try.info_bool
            go_wp2_with (at_builtin; refine stop_app rfl ?_)
            refine Stop.mk (wpList_app _ rfl rfl (us := bvl n U) (base := 0) Try.underlying34 hi0 hz0 hz1 hz2 rfl hrow.out rfl hrd.out rfl (bvl_one _ _) ?_ ?_ (Nat.zero_le _) ?_)
            · unfold maxLen; rw [bvl_len]; have := hp.out.n0; omega
            · rw [bvl_len]; have := hp.out.n0; omega
            intro v9 w22 hown hg hat
            obtain ⟨gb2, cb2, rfl, hcb2, hRB, hb13, k1, k2⟩ := app_done hown hg hat hp.out.n0.1
            clear hrow hrd c3 c3b nne hi0 hz0 hz1 hz2 hown hg hat
            have b22 := blk_below hS.out.sx.rp.blk hb13
            have c22 : w22.cell? ⟨gr, 3, none⟩ = some (.slice (some ⟨gb, 0, none⟩) n cb) := b22.cell 3
            have f22 := b22.frozen 3
            have hrp : RP (w22.setCell ⟨gr, 3, none⟩ (.slice (some ⟨gb2, 0, none⟩) n cb2)) gr gb2 cb2 (m : Int) f n U := by
              obtain ⟨cs, q, q2⟩ := hRB
              exact ⟨b22.set_ 3 _, cs, q.far (p := ⟨gr, 3, none⟩) (fun e => (q.ne_ b22 (by decide)) e) _, q2⟩
            have hch : Chg (fun j => j = gr) w21 (w22.setCell ⟨gr, 3, none⟩ (.slice (some ⟨gb2, 0, none⟩) n cb2)) := (Chg.of_below (S := fun j => j = gr) hb13).setCell (p := ⟨gr, 3, none⟩) (fun _ => rfl) _
            have k3 : gb2 < (w22.setCell ⟨gr, 3, none⟩ (.slice (some ⟨gb2, 0, none⟩) n cb2)).heap.size := by
              obtain ⟨cs, q, _⟩ := hrp.row
              exact q.lt
            have hS := Lib.hid (hS.out.rerow hch ⟨k1, k3⟩ hcb2 hrp)
            clear hrp hch k1 k2 k3 hcb2 b22 hRB hb13
            have hFr := hS.out.p2.free hM.out
            have hrn := hp.out.n0
            obtain ⟨fv, hfv⟩ : ∃ fv, Hid ((n : Int) - (cntT (U) n : Int) = fv) := ⟨_, Lib.hid rfl⟩
            rw [hfv.out] at hFr
            replace hFr := Lib.hid hFr
            go_wp2_with (with_reducible refine stop_load 29 ?_)
            refine Stop.mk (wpList_load_cells rfl rfl rfl (load_pool hS.out.qb) ?_)
            go_wp2_with fail
            refine hFr.out.mono ?_
            rintro e wf ⟨rfl, hbf⟩
            have hS := Lib.hid (hS.out.below hbf)
            have hrF := rFree_calls wf hS.out.sx.rp hrn.2
            rw [hfv.out] at hrF
            replace hrF := Lib.hid hrF
            clear hFr hbf
            go_wp2_with fail
            refine hrF.out.mono ?_
            rintro e wg ⟨rfl, rfl⟩
            clear hrF hfv
            go_wp2
            go_roundw
            case rel => exact ⟨i + 1, gt4, gb2, cb2, ba, ca, x3, V3, U, U, by omega, by go_num, rfl, rfl, hca, Lib.hid (hS.out.mono (by omega))⟩
            case measure => simp [RowKit.intOf]; omega
        as_aux_lemma =>
          have hFr := hS.out.p2.free hM.out
          have hrn := hp.out.n0
          obtain ⟨fv, hfv⟩ : ∃ fv, Hid ((n : Int) - (cntT (T) n : Int) = fv) := ⟨_, Lib.hid rfl⟩
          rw [hfv.out] at hFr
          replace hFr := Lib.hid hFr
          go_wp2_with (with_reducible refine stop_load 29 ?_)
          refine Stop.mk (wpList_load_cells rfl rfl rfl (load_pool hS.out.qb) ?_)
          go_wp2_with fail
          refine hFr.out.mono ?_
          rintro e wf ⟨rfl, hbf⟩
          have hS := Lib.hid (hS.out.below hbf)
          have hrF := rFree_calls wf hS.out.sx.rp hrn.2
          rw [hfv.out] at hrF
          replace hrF := Lib.hid hrF
          clear hFr hbf
          go_wp2_with fail
          refine hrF.out.mono ?_
          rintro e wg ⟨rfl, rfl⟩
          clear hrF hfv
          go_wp2
          go_roundw
          case rel => exact ⟨i + 1, gt3, gb, cb, ba, ca, x, V2, T, U, by omega, by go_num, rfl, rfl, hca, Lib.hid (hS.out.mono (by omega))⟩
          case measure => simp [RowKit.intOf]; omega
      · obtain rfl : L = i := by omega
        have hiL' : ¬ (L : Int) < (L : Int) := by omega
        have hbf := Lib.hid (hB2.out.trans (hS.out.p2.bel.mono hB2.out.size))
        clear hS hca
        go_wp2
        go_ret
        exact ⟨rfl, hbf.out⟩
end Go.Proofs.Ytefbmbfhhhjgkaa
