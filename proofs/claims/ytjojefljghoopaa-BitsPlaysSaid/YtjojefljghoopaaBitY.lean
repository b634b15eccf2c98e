import Derived.Test.YtjojefljghoopaaBitP
import Derived.Test.YtjojefljghoopaaStr
import Derived.Deep.CutRange
import Derived.Deep.QuietTactic
import Derived.BigQuiet
import Derived.Deep.CutBlock
namespace Go.Proofs.Ytjojefljghoopaa
open Go.RowKit

structure Act5 where
  (op i a b n : Int)
def Act5.row (x : Act5) : List Value := [.int .i64 x.op, .int .i64 x.i, .int .i64 x.a, .int .i64 x.b, .int .i64 x.n]
def Act5.ok (x : Act5) : Prop := ∀ z ∈ [x.op, x.i, x.a, x.b, x.n], (Lit.int .i64 z).wf = true

theorem Own8.chg {S : Nat → Prop} {w w' : World} {v : Value} {xs : List UInt8} (h : Own8 w v xs) (hb : Chg S w w') (hs : ∀ k, v.ownBlock = some k → ¬ S k) : Own8 w' v xs := by
  rcases h with ⟨h1, h2⟩
  refine ⟨h1, ?_⟩
  rcases h2 with h2 | ⟨g, cap, cur, rfl, hb0, hg, h3⟩
  · exact .inl h2
  · refine .inr ⟨g, cap, cur, rfl, hb0, ?_, h3⟩
    have hlt : g < w.heap.size := by
      rcases Nat.lt_or_ge g w.heap.size with hlt | hge
      · exact hlt
      · rw [Array.getElem?_eq_none hge] at hg; cases hg
    rw [hb.block g hlt (hs g (by simp [Value.ownBlock]))]
    exact hg

theorem quiet_here {P : Program} {f : FuncId} {args : Array Value} {w : World} {n : Nat} {v : Value} (h : ∀ n, Hid (Calls P f args (w.drewN n) fun e w' => e = .returned v ∧ w.drewN n = w')) :
    Calls P f args (w.drewN n) fun e w'' => e = .returned v ∧ ∃ m, w'' = w.drewN m := (h n).out.mono fun _ _ ⟨he, hm⟩ => ⟨he, n, hm.symm⟩
theorem own8_ne {w : World} {v : Value} {xs : List UInt8} (h : Own8 w v xs) {g t : Nat} {cs : Array Value} (hb : Blk w g t cs) (ht : 5 ≠ t) : v.ownBlock ≠ some g := by
  rcases h.2 with ⟨rfl, _⟩ | ⟨g', cap, cur, rfl, _, hg, _⟩
  · simp [Value.ownBlock]
  · intro x
    have x : g' = g := by simpa [Value.ownBlock] using x
    subst x
    exact Blk.ne_ (t := 5) hg hb ht rfl
theorem setP_len (bs : List UInt8) (i : Int) : (setP bs i).2.length = bs.length := by unfold setP; split <;> simp [turn_len]
theorem clearP_len (bs : List UInt8) (i : Int) : (clearP bs i).2.length = bs.length := by unfold clearP; split <;> simp [turn_len]
set_option maxRecDepth 100000 in
set_option maxHeartbeats 2000000 in
theorem BitsPlays_calls (w : World) {x y : Value} {bs : List UInt8} {acts : List Act5} (xx0 : Rd w x (bvs bs)) (ll0 : bs.length ≤ 9223372036854775807)
    (xx1 : RdF 5 w y (acts.map Act5.row)) (ll1 : acts.length ≤ 9223372036854775807) (ww1 : ∀ n ∈ acts, n.ok) :
    Calls Try.prog 7 #[x, y] w fun e w' => e = .returned (.bool true) ∧ Below w.heap.size w w' := by
  obtain ⟨i0, hi, hz0, hz1, hz2⟩ := info_parts Try.info_u8
  have hx0 := xx0
  have hy0 := xx1
  obtain ⟨A, c, rfl⟩ := xx0.shape8
  obtain ⟨B, d, rfl⟩ := xx1.shape
  rw [List.length_map] at xx1 hy0 ⊢
  by_cases hg : bs.length ≤ 200 ∧ acts.length ≤ 400
  · obtain ⟨g0, g1⟩ := hg
    go_enter Try.func7, Try.ntmps7
    go_wp2_with fail
    refine (known_calls w).mono ?_
    rintro e w1 ⟨rfl, hB1⟩
    have hx1 := hx0.below hB1
    go_wp2_with (at_builtin; refine stop_app rfl ?_)
    refine Stop.mk (wpList_app _ rfl rfl (us := bvs bs) (base := 0) Try.underlying23 hi hz0 hz1 hz2 rfl (own_built8 w1) rfl (hx1.alloc _) rfl (bvs_one _) ?_ ?_ (Nat.zero_le _) ?_)
    · unfold maxLen; rw [bvs_length]; omega
    · rw [bvs_length]; omega
    intro v1 w2 hown hg hat
    obtain ⟨ho, hB2, hn2⟩ := copied (bs := bs) hown (by rw [bvs_length, Nat.zero_add]) (by simp) hg hat
    have hB := hB1.trans (hB2.mono hB1.size)
    have hn : ∀ k, v1.ownBlock = some k → w.heap.size ≤ k := fun k hk => Nat.le_trans hB1.size (hn2 k hk)
    obtain ⟨A1, k1, rfl⟩ := own_shape ho
    have hx2 := hx0.below hB
    clear hown hg hat hn2 hB2 hx1
    go_wp2_with (at_builtin; refine stop_app rfl ?_)
    refine Stop.mk (wpList_app _ rfl rfl (us := bvs bs) (base := 0) Try.underlying23 hi hz0 hz1 hz2 rfl (own_built8 w2) rfl (hx2.alloc _) rfl (bvs_one _) ?_ ?_ (Nat.zero_le _) ?_)
    · unfold maxLen; rw [bvs_length]; omega
    · rw [bvs_length]; omega
    intro v3 w3 hown hg hat
    obtain ⟨ho3, hB3, hn3⟩ := copied (bs := bs) hown (by rw [bvs_length, Nat.zero_add]) (by simp) hg hat
    have hBB := hB.trans (hB3.mono hB.size)
    have hne : ∀ k, (Value.slice A1 bs.length k1).ownBlock = some k → ¬ v3.ownBlock = some k := by
      intro k hk hk3
      have h1 := hn3 k hk3
      rcases ho.2 with ⟨e, _⟩ | ⟨g, cap, cur, e, _, hg, _⟩
      · injection e with e _ _; subst e; simp [Value.ownBlock] at hk
      · injection e with e _ _; subst e
        have : g = k := by simpa [Value.ownBlock] using hk
        subst this
        rw [Array.getElem?_eq_none h1] at hg
        cases hg
    have hm3 := ho.below hB3
    have hn3 : ∀ k, v3.ownBlock = some k → w.heap.size ≤ k := fun k hk => Nat.le_trans hB.size (hn3 k hk)
    obtain ⟨A3, k3, rfl⟩ := own_shape ho3
    have hNE := Lib.hid hne
    have hM := Lib.hid hm3
    have hR := Lib.hid ho3
    clear hown hg hat hx2 ho hB hB1 hm3 ho3 hB3 hne
    go_wp2
    go_loopw [7] (fun i wr => ∃ (k : Nat) (cs : List UInt8), k ≤ acts.length ∧ i = .int .i64 k ∧ Hid (cs.length = bs.length) ∧ Hid (Own8 wr (.slice A1 bs.length k1) cs) ∧ Hid (Own8 wr (.slice A3 bs.length k3) cs) ∧ Below w.heap.size w wr) (fun i _ => acts.length - (intOf i).toNat)
    case atStart => exact ⟨0, bs, Nat.zero_le _, rfl, rfl, hM, hR, hBB⟩
    case round =>
      obtain ⟨k, cs, hk, rfl, hcl, hm, hr, hBr⟩ := hrel
      clear hM hR hBB
      by_cases hlt : k < acts.length
      · obtain ⟨ad, rfl, hcell⟩ := (hy0.below hBr).at_ (k := k) (by rw [List.length_map]; exact hlt)
        rw [List.getElem_map] at hcell
        have hok := ww1 _ (List.getElem_mem hlt)
        generalize acts[k] = a at *
        obtain ⟨op, i, fr, pa, nn⟩ := a
        have b0 := wf64 (hok op (by simp))
        have b1 := wf64 (hok i (by simp))
        have b2 := wf64 (hok fr (by simp))
        have b3 := wf64 (hok pa (by simp))
        have b4 := wf64 (hok nn (by simp))
        have hld := run_loadAt_cells (P := Try.prog) wr _ 40 _ _ hcell Try.underlying40 rfl (by kernel_rfl)
        simp only [Act5.row] at hld
        clear hok hcell
        go_wp2_with (with_reducible refine stop_load 40 ?_)
        refine Stop.mk (wpList_load_cells rfl rfl rfl hld ?_)
        go_upto_block 2 with fail
        have hb : Blk (wr.alloc (.cells #[.int .i64 op, .int .i64 i, .int .i64 fr, .int .i64 pa, .int .i64 nn] 40)) wr.heap.size 40 #[.int .i64 op, .int .i64 i, .int .i64 fr, .int .i64 pa, .int .i64 nn] := Blk.new _ _ _
        have hal : Below wr.heap.size wr (wr.alloc (.cells #[.int .i64 op, .int .i64 i, .int .i64 fr, .int .i64 pa, .int .i64 nn] 40)) := (Below.refl _ _).alloc (Nat.le_refl _) _
        have hma := Lib.hid (hm.out.below hal)
        have hra := Lib.hid (hr.out.below hal)
        have hBa := Lib.hid (hBr.trans (hal.mono hBr.size))
        clear hal hld hm hr hBr
        generalize wr.alloc (.cells #[.int .i64 op, .int .i64 i, .int .i64 fr, .int .i64 pa, .int .i64 nn] 40) = wa at *
        generalize wr.heap.size = g at *
        go_cut [8] from 33 to 157 (fun s8 wx => s8 = .pointer (some ⟨g, 0, none⟩) ∧ ∃ cs' : List UInt8, Hid (cs'.length = bs.length) ∧ Hid (Own8 wx (.slice A1 bs.length k1) cs') ∧ Hid (Own8 wx (.slice A3 bs.length k3) cs') ∧
          Blk wx g 40 #[.int .i64 op, .int .i64 i, .int .i64 fr, .int .i64 pa, .int .i64 nn] ∧ Hid (Below w.heap.size w wx))
        case first =>
          rcases (show (op == 1) = true ∨ ((op == 1) = false ∧ (op == 2) = true) ∨ ((op == 1) = false ∧ (op == 2) = false) by cases op == 1 <;> cases op == 2 <;> simp) with o1 | ⟨o1, o2⟩ | ⟨o1, o2⟩
          · skip
            go_wp2_with fail
            have hlen : (setP cs i).2.length = bs.length := (setP_len cs i).trans hcl.out
            have HS := Lib.hid (set_calls wa.drew _ cs i hma.out (by have := hcl.out; omega) b1.1 b1.2)
            have HP := fun W h => Lib.hid (rput_calls W (.slice A3 bs.length k3) cs i true h (by have := hcl.out; omega) b1.1 b1.2)
            rw [putP_set] at HP
            generalize setP cs i = o at *
            obtain ⟨ob, cs'⟩ := o
            simp only at hlen
            have hlen := Lib.hid hlen
            refine wp_mix (fun W => Blk W g 40 #[.int .i64 op, .int .i64 i, .int .i64 fr, .int .i64 pa, .int .i64 nn]) [3, 7] (by kernel_rfl) (by kernel_rfl) (by kernel_rfl) hb.drew ?_
            iterate 3 (refine mixq rfl rfl ?_ (fun w' hw' => Or.inl ?_) (fun K hK => ?_); rotate_left; (focus (have c1 := Blk.cell hw' 1; go_simp; rfl)); go_simp; refine hK _ ?_; clear hK K)
            refine mixl rfl rfl (fun K hK => ?_)
            go_simp
            refine HS.out.mono ?_
            rintro e w4 ⟨rfl, hm4, hc4⟩
            have hb4 := Blk.chg hb.drew hc4 (own8_ne hma.out hb (by decide))
            have hr4 : Own8 w4 (.slice A3 bs.length k3) cs := Own8.chg (w := wa.drew) hra.out hc4 (fun k hk hk' => hNE.out k hk' hk)
            refine hK _ _ (fun _ => hb4) ?_
            clear hK K
            iterate 3 (refine mixq rfl rfl ?_ (fun w' hw' => Or.inl ?_) (fun K hK => ?_); rotate_left; (focus (have c1 := Blk.cell hw' 1; go_simp; rfl)); go_simp; refine hK _ ?_; clear hK K)
            refine mixl rfl rfl (fun K hK => ?_)
            go_simp
            refine (HP w4 hr4).out.mono ?_
            rintro e w5 ⟨rfl, hr5, hc5⟩
            have hb5 := Blk.chg hb4 hc5 (own8_ne hr4 hb4 (by decide))
            have hm5 : Own8 w5 (.slice A1 bs.length k1) cs' := Own8.chg hm4 hc5 (fun k hk hk' => hNE.out k hk hk')
            have hB5 : Below w.heap.size w w5 := ((hBa.out.drew).trans (hc4.below hBa.out.size hn)).trans (hc5.below (Nat.le_trans hBa.out.size hc4.size) hn3)
            refine hK _ _ (fun _ => hb5) ?_
            clear hK K
            refine mixq rfl rfl ?_ (fun w' hw' => Or.inl ?_) (fun K hK => ?_); rotate_left; (focus (go_simp; rfl)); go_simp; refine hK _ ?_; clear hK K
            refine mix_nil ?_
            clear HS HP
            go_wp2
            all_goals
              go_meet
              exact ⟨rfl, cs', hlen, hm5, hr5, hb5, hB5⟩
          · skip
            go_wp2_with fail
            have hlen : (clearP cs i).2.length = bs.length := (clearP_len cs i).trans hcl.out
            have HS := Lib.hid (clear_calls wa.drew _ cs i hma.out (by have := hcl.out; omega) b1.1 b1.2)
            have HP := fun W h => Lib.hid (rput_calls W (.slice A3 bs.length k3) cs i false h (by have := hcl.out; omega) b1.1 b1.2)
            rw [putP_clear] at HP
            generalize clearP cs i = o at *
            obtain ⟨ob, cs'⟩ := o
            simp only at hlen
            have hlen := Lib.hid hlen
            refine wp_mix (fun W => Blk W g 40 #[.int .i64 op, .int .i64 i, .int .i64 fr, .int .i64 pa, .int .i64 nn]) [3, 7] (by kernel_rfl) (by kernel_rfl) (by kernel_rfl) hb.drew ?_
            iterate 3 (refine mixq rfl rfl ?_ (fun w' hw' => Or.inl ?_) (fun K hK => ?_); rotate_left; (focus (have c1 := Blk.cell hw' 1; go_simp; rfl)); go_simp; refine hK _ ?_; clear hK K)
            refine mixl rfl rfl (fun K hK => ?_)
            go_simp
            refine HS.out.mono ?_
            rintro e w4 ⟨rfl, hm4, hc4⟩
            have hb4 := Blk.chg hb.drew hc4 (own8_ne hma.out hb (by decide))
            have hr4 : Own8 w4 (.slice A3 bs.length k3) cs := Own8.chg (w := wa.drew) hra.out hc4 (fun k hk hk' => hNE.out k hk' hk)
            refine hK _ _ (fun _ => hb4) ?_
            clear hK K
            iterate 3 (refine mixq rfl rfl ?_ (fun w' hw' => Or.inl ?_) (fun K hK => ?_); rotate_left; (focus (have c1 := Blk.cell hw' 1; go_simp; rfl)); go_simp; refine hK _ ?_; clear hK K)
            refine mixl rfl rfl (fun K hK => ?_)
            go_simp
            refine (HP w4 hr4).out.mono ?_
            rintro e w5 ⟨rfl, hr5, hc5⟩
            have hb5 := Blk.chg hb4 hc5 (own8_ne hr4 hb4 (by decide))
            have hm5 : Own8 w5 (.slice A1 bs.length k1) cs' := Own8.chg hm4 hc5 (fun k hk hk' => hNE.out k hk hk')
            have hB5 : Below w.heap.size w w5 := ((hBa.out.drew).trans (hc4.below hBa.out.size hn)).trans (hc5.below (Nat.le_trans hBa.out.size hc4.size) hn3)
            refine hK _ _ (fun _ => hb5) ?_
            clear hK K
            refine mixq rfl rfl ?_ (fun w' hw' => Or.inl ?_) (fun K hK => ?_); rotate_left; (focus (go_simp; rfl)); go_simp; refine hK _ ?_; clear hK K
            refine mix_nil ?_
            clear HS HP
            go_wp2
            all_goals
              go_meet
              exact ⟨rfl, cs', hlen, hm5, hr5, hb5, hB5⟩
          · go_wp2
            all_goals
              go_meet
              exact ⟨rfl, cs, hcl, hma, hra, hb, hBa⟩
        case rest =>
          obtain ⟨rfl, cs', hlen, hm5, hr5, hb5, hB5⟩ := hcut
          have hm5 := hm5.out
          have hr5 := hr5.out
          have hB5 := hB5.out
          clear hma hra hBa hb
          generalize wc = w5 at *
          have hl : cs'.length ≤ 1000000000000 := by have := hlen.out; omega
          obtain ⟨u1, hu1⟩ : ∃ u, u = runP cs' fr pa 1 := ⟨_, rfl⟩
          obtain ⟨u2, hu2⟩ : ∃ u, u = runP cs' fr pa nn := ⟨_, rfl⟩
          have F1 := Lib.hid (first_calls w5 _ cs' fr pa hm5.rd hl b2.1 b2.2 b3.1 b3.2)
          have F2 := Lib.hid (rfirst_calls w5 _ cs' fr pa hr5.rd hl b2.1 b2.2 b3.1 b3.2)
          have F3 := Lib.hid (run_calls w5 _ cs' fr pa nn hm5.rd hl b2.1 b2.2 b3.1 b3.2 b4.1 b4.2)
          have F4 := Lib.hid (rrun_calls w5 _ cs' fr pa nn hr5.rd hl b2.1 b2.2 b3.1 b3.2 b4.1 b4.2)
          have F5 := fun n => Lib.hid (has_calls (w5.drewN n) _ cs' i (hm5.rd.drewN n) hl b1.1 b1.2)
          have F6 := fun n => Lib.hid (rhas_calls (w5.drewN n) _ cs' i (hr5.rd.drewN n) hl b1.1 b1.2)
          have F7 := fun n => Lib.hid (count_calls (w5.drewN n) _ cs' fr pa (hm5.rd.drewN n) hl b2.1 b2.2 b3.1 b3.2)
          have F8 := fun n => Lib.hid (rcount_calls (w5.drewN n) _ cs' fr pa (hr5.rd.drewN n) hl b2.1 b2.2 b3.1 b3.2)
          rw [← hu1] at F1 F2
          rw [← hu2] at F3 F4
          have f1 := hb5.cell 1
          have f2 := hb5.cell 2
          have f3 := hb5.cell 3
          have f4 := hb5.cell 4
          have S1 := Lib.hid (fun n => run_str (P := Try.prog) (w5.drewN n) 24 9 5 _ _ Try.underlying24 Try.underlying5 Try.underlying9 (hm5.rd.drewN n))
          have S2 := Lib.hid (fun n => run_str (P := Try.prog) (w5.drewN n) 23 9 5 _ _ Try.underlying23 Try.underlying5 Try.underlying9 (hr5.rd.drewN n))
          unfold str at S1 S2
          clear hu1 hu2
          obtain ⟨p, ok⟩ := u1
          obtain ⟨q, good⟩ := u2
          generalize hasP cs' i = hz at *
          generalize countP cs' fr pa = cz at *
          have hm6 : Hid (∀ n, Own8 (w5.drewN n) (.slice A1 bs.length k1) cs') := fun n => hm5
          have hr6 : Hid (∀ n, Own8 (w5.drewN n) (.slice A3 bs.length k3) cs') := fun n => hr5
          have hB6 : ∀ n, Below w.heap.size w (w5.drewN n) := fun n => ⟨hB5.os, hB5.tape, hB5.output, hB5.size, hB5.block⟩
          clear hm5 hr5
          go_wp2_with fail
          refine F1.out.mono ?_
          rintro e w6 ⟨rfl, rfl⟩
          go_wp2_with fail
          refine F2.out.mono ?_
          rintro e w6 ⟨rfl, rfl⟩
          go_wp2_with fail
          refine F3.out.mono ?_
          rintro e w6 ⟨rfl, rfl⟩
          go_wp2_with fail
          refine F4.out.mono ?_
          rintro e w6 ⟨rfl, rfl⟩
          go_wp2_with fail
          clear F1 F2 F3 F4
          have s1 := S1.out
          have s2 := S2.out
          clear hb5 hB5
          go_quiet (first | exact quiet_here F5 | exact quiet_here F6 | exact quiet_here F7 | exact quiet_here F8)
          clear s1 s2 S1 S2 F5 F6 F7 F8 f1 f2 f3 f4
          go_wp2
          go_roundw
          case rel => exact ⟨k + 1, cs', by omega, rfl, hlen, hm6.out _, hr6.out _, hB6 _⟩
          case measure => simp [intOf]; omega
      · go_wp2
        go_ret
        exact ⟨rfl, hBr⟩
  · have hc : 200 < bs.length ∨ (bs.length ≤ 200 ∧ 400 < acts.length) := by omega
    clear hg
    rcases hc with hc | ⟨c1, c2⟩
    all_goals
      go_enter Try.func7, Try.ntmps7
      go_wp2_with fail
      refine (known_calls w).mono ?_
      rintro e w1 ⟨rfl, hB1⟩
      go_wp2
      go_ret
      exact ⟨rfl, hB1⟩
end Go.Proofs.Ytjojefljghoopaa
