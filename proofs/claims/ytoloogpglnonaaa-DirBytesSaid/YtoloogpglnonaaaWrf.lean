import Derived.Test.YtoloogpglnonaaaWrb
namespace Go.Proofs.Ytoloogpglnonaaa
open Go.RowKit
def fx (bs : List UInt8) (n : Nat) : List UInt8 := bs.take n ++ List.replicate (n - bs.length) 0
theorem fx_len (bs : List UInt8) (n : Nat) : (fx bs n).length = n := by simp only [fx, List.length_append, List.length_take, List.length_replicate]; omega
theorem fx_in (bs : List UInt8) {k : Nat} (h : k < bs.length) : fx bs (k + 1) = fx bs k ++ [bs[k]] := by
  unfold fx
  rw [show k + 1 - bs.length = 0 by omega, show k - bs.length = 0 by omega]
  simp only [List.replicate_zero, List.append_nil]
  exact List.take_succ_eq_append_getElem h
theorem fx_out (bs : List UInt8) {k : Nat} (h : bs.length ≤ k) : fx bs (k + 1) = fx bs k ++ [0] := by
  unfold fx
  rw [List.take_of_length_le (by omega), List.take_of_length_le h, show k + 1 - bs.length = (k - bs.length) + 1 by omega, List.replicate_succ', List.append_assoc]
theorem rd_at {w : World} {ad : Addr} {n c k : Nat} {us : List Value} {u : Value} (h : Rd w (.slice (some ad) n c) us) (hk : Hid (us[k]? = some u)) : w.cell? (ad.add k) = some u := by
  obtain ⟨A, c', e, hl, hr⟩ := h
  obtain ⟨ad', e1, hc⟩ := hr (by rintro rfl; cases hk.out)
  subst e1
  injection e with e1 _ _
  injection e1 with e1
  subst e1
  exact hc k u hk.out
set_option maxRecDepth 10000 in
set_option maxHeartbeats 1000000 in
theorem WFixed_calls (w : World) (g : Nat) (v x : Value) (xs bs : List UInt8) (size : Int) (sz : Nat) (h : RWr w g v xs) (hx : Rd w x (bvs bs)) (hne : bs ≠ [] → ∀ k, x.ownBlock = some k → ¬ Wset g v k ∧ k < w.heap.size) (hl : xs.length ≤ 100000000) (hb : bs.length ≤ 100000000)
    (hs : min (max size 0) 65536 = (sz : Int)) (n1 : -9223372036854775808 ≤ size) (n2 : size ≤ 9223372036854775807) :
    Calls Try.prog 38 #[.pointer (some ⟨g, 0, none⟩), x, .int .i64 size] w (RWrOut w g v (xs ++ fx bs sz)) := by
  obtain ⟨i0, hi, hz0, hz1, hz2⟩ := info_parts Try.info_u8
  obtain ⟨A, c, rfl⟩ := hx.shape8
  go_enter Try.func38, Try.ntmps38
  by_cases hbig : 65536 < size
  all_goals go_wp2
  generalize hB : (65536 : Int) = B at *
  rotate_left
  generalize hB : size = B at *
  all_goals
    go_loopw [6] (fun i wr => ∃ (k : Nat) (v' : Value), k ≤ sz ∧ i = .int .i64 k ∧ Hid (RWr wr g v' (xs ++ fx bs k)) ∧ Hid (Chg (Wset g v) w wr) ∧ Hid (v'.ownBlock = v.ownBlock ∨ ∃ k, v'.ownBlock = some k ∧ w.heap.size ≤ k)) (fun i _ => sz - (intOf i).toNat)
    case atStart => exact ⟨0, v, Nat.zero_le _, rfl, (by simpa [fx] using h : RWr w g v (xs ++ fx bs 0)), Chg.refl _ _, .inl rfl⟩
    case round =>
      obtain ⟨k, v1, hk, rfl, hW, hC, hv⟩ := hrel
      clear h
      by_cases hlt : k < sz
      · have hcond : (k : Int) < size := by omega
        have hcond2 : k < 65536 := by omega
        have hlh := Lib.hid (show (xs ++ fx bs k).length ≤ 100065536 by rw [List.length_append, fx_len]; omega)
        by_cases hin : k < bs.length
        · have hne0 : bs ≠ [] := by rintro rfl; simp at hin
          have hrx := Lib.hid (hx.chg hC.out (fun k' hk' => (hne hne0 k' hk').1))
          obtain ⟨ad, c', he, hcl⟩ := Rd.cell hrx.out (j := k) (by rw [bvs_length]; exact hin)
          injection he with he1 he2 he3
          subst he1
          clear he2 he3
          have hcl : wr.cell? (ad.add k) = some (.int .u8 bs[k].toNat) := by rw [hcl]; simp [bvs, bv]
          have hblk := Lib.hid hW.out.blk
          have hsuc := Lib.hid (fx_in bs hin)
          have hrd : Hid (Rd (wr.drew.alloc (.cells #[.int .u8 bs[k].toNat] 5)) (.slice (some ⟨wr.drew.heap.size, 0, none⟩) 1 1) (bvs [bs[k]])) := by
            exact rd_new wr.drew (bvs [bs[k]]) 5 1 rfl
          have hat0 : Hid ((bvs bs)[k]? = some (.int .u8 bs[k].toNat)) := by
            show _ = _
            simp [bvs, bv, hin]
          have hfar : ∀ u : Option Nat, u = v1.ownBlock → (Value.slice (some ad) bs.length c).ownBlock ≠ u := by
            rintro u rfl e
            obtain ⟨k', hk'⟩ : ∃ k', (Value.slice (some ad) bs.length c).ownBlock = some k' := ⟨_, rfl⟩
            obtain ⟨n1', n2'⟩ := hne hne0 k' hk'
            rcases hv.out with e1 | ⟨j, e1, hj⟩
            · exact n1' (.inr (by rw [← e1, ← e, hk']))
            · rw [← e, hk'] at e1
              injection e1 with e1
              omega
          have hbk := bs[k].toNat_lt
          go_wp2
          generalize bs[k] = bk at *
          refine wp_mix_tail (fun W => Blk W g 73 #[v1] ∧ W.cell? (ad.add k) = some (.int .u8 bk.toNat)) [9, 10, 13] (by kernel_rfl) (by kernel_rfl) (by kernel_rfl) (by kernel_rfl) ⟨hblk.out.drew, hcl⟩ ?_
          iterate 9 (refine mixq rfl rfl ?_ (fun w' hw' => Or.inl ?_) (fun K hK => ?_); rotate_left; (focus (have c0 := Blk.cell hw'.1 0; have c1 := hw'.2; go_simp; rfl)); go_simp; refine hK _ ?_; clear hK K)
          refine mixl rfl rfl (fun K hK => ?_)
          go_simp
          refine hK _ _ (fun _ => ⟨hblk.out.drew.alloc _, ?_⟩) ?_
          · exact rd_at ((hrx.out.drew).alloc _) hat0
          clear hK K
          refine mixl rfl rfl (fun K hK => ?_)
          refine wp_app _ rfl (us := bvs [bk]) (base := 0) Try.underlying30 hi hz0 hz1 hz2 rfl (hW.out.own.alloc _) rfl hrd.out rfl (bvs_one _) ?_ ?_ (Nat.zero_le _) ?_
          · have := hlh.out; unfold maxLen; simp only [bvs_length, List.length_cons, List.length_nil]; omega
          · have := hlh.out; simp only [bvs_length, List.length_cons, List.length_nil]; omega
          intro v2 w2 hown hg hat
          obtain ⟨N, A1, k1, HN, rfl, hown2⟩ := own_hide hown
          clear hown
          have b1 := (hblk.out.drew.alloc _).grown hg (Ne.symm (hW.out.own.ne hW.out.blk (by decide)))
          go_simp
          refine hK _ _ (fun _ => ⟨b1, ?_⟩) ?_
          · refine rd_at ((hrx.out.drew.alloc _).grown hg (.inr (hfar _ rfl))) hat0
          clear hK K
          iterate 2 (refine mixq rfl rfl ?_ (fun w' hw' => Or.inl ?_) (fun K hK => ?_); rotate_left; (focus (have c0 := Blk.cell hw'.1 0; have c1 := hw'.2; go_simp; rfl)); go_simp; refine hK _ ?_; clear hK K)
          refine mixl rfl rfl (fun K hK => ?_)
          have c1 := b1.cell 0; have f1 := b1.frozen 0
          go_simp
          refine hK _ _ (fun hf => (by cases hf)) (mix_nil ?_)
          clear hK K
          obtain ⟨q1, q2, q3⟩ := RWr.step (us := xs ++ fx bs (k + 1)) hW.out hC.out hv.out ((Below.refl _ _).drew.alloc (Nat.le_refl _) _) hown2 rfl (by rw [HN.out]; simp [bvs_length]) hg hat (by rw [hsuc.out, List.append_assoc])
          have q1 := Lib.hid q1
          have q2 := Lib.hid q2
          have q3 := Lib.hid q3
          go_wp2
          go_roundw
          case rel =>
            exact ⟨k + 1, _, by omega, rfl, q1, q2, q3⟩
          case measure => simp [intOf]; omega
        · have hsuc := Lib.hid (fx_out bs (k := k) (by omega))
          have c0 := hW.out.blk.cell 0
          have f0 := hW.out.blk.frozen 0
          have hin2 : ¬ ((k : Int) < bs.length) := by omega
          have hrd : Hid (Rd (wr.alloc (.cells #[.int .u8 0] 5)) (.slice (some ⟨wr.heap.size, 0, none⟩) 1 1) (bvs [0])) := by
            exact rd_new wr (bvs [0]) 5 1 rfl
          go_wp2_with (at_builtin; refine stop_app rfl ?_)
          refine Stop.mk (wpList_app _ rfl rfl (us := bvs [0]) (base := 0) Try.underlying30 hi hz0 hz1 hz2 rfl (hW.out.own.alloc _) rfl hrd.out rfl (bvs_one _) ?_ ?_ (Nat.zero_le _) ?_)
          · have := hlh.out; unfold maxLen; simp only [bvs_length, List.length_cons, List.length_nil]; omega
          · have := hlh.out; simp only [bvs_length, List.length_cons, List.length_nil]; omega
          intro v2 w2 hown hg hat
          obtain ⟨N, A1, k1, HN, rfl, hown2⟩ := own_hide hown
          clear hown
          have b1 := (hW.out.blk.alloc _).grown hg (Ne.symm (hW.out.own.ne hW.out.blk (by decide))); have c1 := b1.cell 0; have f1 := b1.frozen 0
          obtain ⟨q1, q2, q3⟩ := RWr.step (us := xs ++ fx bs (k + 1)) hW.out hC.out hv.out ((Below.refl _ _).alloc (Nat.le_refl _) _) hown2 rfl (by rw [HN.out]; simp [bvs_length]) hg hat (by rw [hsuc.out, List.append_assoc])
          have q1 := Lib.hid q1
          have q2 := Lib.hid q2
          have q3 := Lib.hid q3
          go_wp2
          go_roundw
          case rel => exact ⟨k + 1, _, by omega, rfl, q1, q2, q3⟩
          case measure => simp [intOf]; omega
      · have hk2 : Hid (k = sz) := by show _ = _; omega
        have hcond : ¬ ((k : Int) < B) := by omega
        go_wp2
        go_end0
        rw [hk2.out] at hW
        exact ⟨rfl, v1, hW.out, hC.out, hv.out⟩
end Go.Proofs.Ytoloogpglnonaaa
