import Derived.Test.YtoloogpglnonaaaSum
namespace Go.Proofs.Ytoloogpglnonaaa
open Go.RowKit

set_option maxRecDepth 10000 in
set_option maxHeartbeats 400000 in
theorem Seal_calls (w : World) (x : Value) (bs : List UInt8) (hx : Rd w x (bvs bs)) (hl : bs.length ≤ 100000000) :
    Calls Try.prog 35 #[x] w (ByOut w (bs ++ le32 (crcP bs))) := by
  obtain ⟨A, c, rfl⟩ := hx.shape8
  obtain ⟨us, hus⟩ : ∃ us, us = bs ++ le32 (crcP bs) := ⟨_, rfl⟩
  rw [← hus]
  have HUS := Lib.hid hus
  clear hus
  have hcrc : crcP bs < 4294967296 := by unfold crcP; omega
  go_enter Try.func35, Try.ntmps35
  go_wp2_with fail
  refine (NewWriter_calls w).mono ?_
  rintro e w1 ⟨g, rfl, hg0, hW, hB⟩
  go_wp2_with fail
  refine (Clone8_calls w1 _ bs (hx.below hB) (by omega)).mono ?_
  rintro e w2 ⟨r, rfl, k1, k2, k3⟩
  obtain ⟨A1, c1, rfl⟩ := k1.shape
  have b2 := hW.blk.chg (Chg.of_below k2) (S := fun _ => False) id
  have c0 := b2.cell 0
  have f0 := b2.frozen 0
  have hB2 : Below w.heap.size w w2 := hB.trans (k2.mono hB.size)
  have hne := k1.ne b2 (by decide)
  go_wp2_with fail
  have hB3 := hB2.setCell (p := ⟨g, 0, none⟩) hg0 (Value.slice A1 bs.length c1)
  refine (Sum_calls _ _ bs (hx.below hB3) (by omega)).mono ?_
  rintro e w4 ⟨rfl, hB4⟩
  have hw3 : Wr w4 g (Value.slice A1 bs.length c1) bs := by
    have b3 := (b2.set_ 0 (Value.slice A1 bs.length c1)).chg (Chg.of_below hB4) (S := fun _ => False) id
    refine ⟨b3, ?_⟩
    have o3 := ownsRow_setCell_other k1 (a := ⟨g, 0, none⟩) hne (Value.slice A1 bs.length c1)
    exact o3.kept (row := none) ⟨hB4.os, hB4.tape, hB4.output, hB4.size, fun k hk _ => hB4.block k hk⟩ (by cases (Value.slice A1 bs.length c1).ownBlock <;> simp)
  have hB5 : Below w.heap.size w w4 := hB3.trans (hB4.mono (by simpa [World.setCell] using hB2.size))
  go_wp2_with fail
  refine (U32_calls w4 g _ bs _ hw3 (by omega)).mono ?_
  rintro e w5 ⟨rfl, v5, h5, hc5, hat5⟩
  have c5 := h5.blk.cell 0
  go_wp2
  go_ret
  refine ⟨v5, rfl, by rw [HUS.out]; exact h5.own, hB5.trans (hc5.below hB5.size (fun k hk => ?_)), fun k hk => ?_⟩
  · rcases hk with rfl | hk
    · exact hg0
    · exact Nat.le_trans hB.size (k3 k hk)
  · rcases hat5 with e | ⟨j, e, hj⟩
    · rw [e] at hk; exact Nat.le_trans hB.size (k3 k hk)
    · rw [e] at hk; injection hk with hk; rw [← hk]; exact Nat.le_trans hB5.size hj

theorem rd_takec {w : World} {A : Option Addr} {c m n : Nat} {bs : List UInt8} (h : Rd w (.slice A m c) (bvs bs)) (hn : n ≤ bs.length) : Rd w (.slice A n c) (bvs (bs.take n)) := by
  have hl : bs.length ≤ c := by
    obtain ⟨A', c', e, hl, _⟩ := h
    injection e with _ _ e3
    rw [e3, ← bvs_length bs]; exact hl
  obtain ⟨A', c', e, _, hr⟩ := rd_take h hn
  injection e with e1 e2 e3
  subst e1
  rw [bvs_length] at e2
  exact ⟨A, c, by rw [bvs_length, ← e2], by rw [bvs_length, List.length_take]; omega, hr⟩
def openP (bs : List UInt8) : List UInt8 × Int :=
  if bs.length < 4 then ([], 2) else if numP (bs.drop (bs.length - 4)) = crcP (bs.take (bs.length - 4)) then (bs.take (bs.length - 4), 0) else ([], 4)
def OpenOut (w : World) (o : List UInt8 × Int) (e : Ending) (w' : World) : Prop :=
  ∃ r, e = .returned (.tuple #[r, .int .i64 o.2]) ∧ Own8 w' r o.1 ∧ Below w.heap.size w w' ∧ (∀ k, r.ownBlock = some k → w.heap.size ≤ k)

set_option maxRecDepth 10000 in
set_option maxHeartbeats 400000 in
theorem Open_calls (w : World) (x : Value) (bs : List UInt8) (hx : Rd w x (bvs bs)) (hl : bs.length ≤ 100000000) :
    Calls Try.prog 41 #[x] w (OpenOut w (openP bs)) := by
  have hx0 := hx
  obtain ⟨A, c, rfl⟩ := hx.shape8
  by_cases h4 : bs.length < 4
  · have ht : openP bs = ([], 2) := by simp [openP, h4]
    rw [ht]
    clear ht
    go_enter Try.func41, Try.ntmps41
    go_wp2
    go_ret2
    exact ⟨_, rfl, World.ownsRow_nil _ _ _ _, Below.refl _ _, fun k hk => by simp [Value.ownBlock] at hk⟩
  · obtain ⟨n, hn⟩ : ∃ n, bs.length - 4 = n := ⟨_, rfl⟩
    have hn1 : bs.length = n + 4 := by omega
    have hmc : bs.length ≤ c := by
      obtain ⟨A', c', e, hl, _⟩ := hx0
      injection e with _ _ e3
      rw [e3, ← bvs_length bs]; exact hl
    have r1 := rd_drop hx (show n ≤ bs.length by omega)
    have r2 := rd_takec hx (show n ≤ bs.length by omega)
    have hcn : ¬ c = n := by omega
    rw [if_neg hcn] at r1
    have hnc : n ≤ c := by omega
    have hnl : n ≤ bs.length := by omega
    have ht4 : takeP (bs.drop n) 0 ((4 : Nat) : Int) = (bs.drop n, [], 0) := by
      have : (bs.drop n).length = 4 := by rw [List.length_drop]; omega
      unfold takeP
      rw [if_neg (by simp), if_neg (by omega), if_neg (by omega)]
      simp [List.take_of_length_le, List.drop_eq_nil_of_le, this]
    have R1 := Lib.hid r1
    have R2 := Lib.hid r2
    clear r1 r2
    have l1 : (bs.drop n).length ≤ 1000000000 := by rw [List.length_drop]; omega
    have l2 : (bs.take n).length ≤ 1000000000 := by rw [List.length_take]; omega
    have hs1 : (bs.length : Int) - 4 = (n : Int) := by omega
    have hN := numP_take4 (bs.drop n) 0
    rw [show (4 : Int) = ((4 : Nat) : Int) from rfl, ht4] at hN
    have HT := Lib.hid ht4
    clear ht4
    clear hN
    have HL := Lib.hid hn1
    clear hn hn1
    go_enter Try.func41, Try.ntmps41
    go_wp2
    refine wp_mix (fun _ => True) [3, 4, 8] (by kernel_rfl) (by kernel_rfl) (by kernel_rfl) trivial ?_
    iterate 3 (refine mixq rfl rfl ?_ (fun w' hw' => Or.inl ?_) (fun K hK => ?_); rotate_left; (focus (go_simp; rfl)); go_simp; refine hK _ ?_; clear hK K)
    refine mixl rfl rfl (fun K hK => ?_)
    go_simp
    refine (NewReader_calls _ _ (bs.drop n) (Rd.drew R1.out) l1).mono ?_
    rintro e w1 ⟨g, b1, rfl, hg, hR, hB0, hb1⟩
    have hB : Below w.heap.size w w1 := ((Below.refl w.heap.size w).drew).trans hB0
    have hg' : w.heap.size ≤ g := hg
    clear hB0 hg
    refine hK _ _ (fun _ => trivial) ?_
    clear hK K
    refine mixl rfl rfl (fun K hK => ?_)
    go_simp
    have hU := RU32_calls w1 g b1 _ 0 hR l1
    rw [show (4 : Int) = ((4 : Nat) : Int) from rfl, HT.out] at hU
    refine hU.mono ?_
    clear hU
    rintro e w2 ⟨b2, rfl, h2, hc2, hb2⟩
    refine hK _ _ (fun _ => trivial) ?_
    clear hK K
    have hB2 : Below w.heap.size w w2 := (hB.trans (hc2.below hB.size (fun k hk => by rw [hk]; exact hg')))
    iterate 3 (refine mixq rfl rfl ?_ (fun w' hw' => Or.inl ?_) (fun K hK => ?_); rotate_left; (focus (go_simp; rfl)); go_simp; refine hK _ ?_; clear hK K)
    refine mixl rfl rfl (fun K hK => ?_)
    go_simp
    refine (Sum_calls w2 _ (bs.take n) (R2.out.below hB2) l2).mono ?_
    rintro e w3 ⟨rfl, hB3⟩
    refine hK _ _ (fun _ => trivial) ?_
    clear hK K
    have hB4 : Below w.heap.size w w3 := hB2.trans (hB3.mono hB2.size)
    have hcl : crcP (bs.take n) < 4294967296 := by unfold crcP; omega
    have hnl : numP (bs.drop n) < 4294967296 := Nat.lt_of_lt_of_le (numP_lt _) (by
      have : (bs.drop n).length = 4 := by rw [List.length_drop]; have := HL.out; omega
      rw [this]; decide)
    generalize hcq : crcP (bs.take n) = cq at *
    generalize hnq : numP (bs.drop n) = nq at *
    have HO : Hid (openP bs = if nq = cq then (bs.take n, 0) else ([], 4)) := by
      have := HL.out
      show openP bs = _
      unfold openP
      rw [if_neg (by omega), show bs.length - 4 = n from by omega, hcq, hnq]
    clear hcq hnq hR h2 hb1 hb2 hc2
    have hwr : IntKind.i64.wrap (cq : Int) = (cq : Int) := by rw [IntKind.wrap_i64]; omega
    by_cases hq : nq = cq
    · have HO2 : Hid (openP bs = (bs.take n, 0)) := by have := HO.out; rwa [if_pos hq] at this
      clear HO
      subst hq
      have hbq : ((nq : Int) != (nq : Int)) = false := by simp
      iterate 2 (refine mixq rfl rfl ?_ (fun w' hw' => Or.inl ?_) (fun K hK => ?_); rotate_left; (focus (go_simp; rfl)); go_simp; refine hK _ ?_; clear hK K)
      refine mix_nil ?_
      go_wp2_with fail
      refine (Clone8_calls w3 _ (bs.take n) (R2.out.below hB4) l2).mono ?_
      rintro e w5 ⟨r, rfl, k1, k2, k3⟩
      go_wp2
      go_ret2
      rw [HO2.out]
      exact ⟨r, rfl, k1, hB4.trans (k2.mono hB4.size), fun k hk => Nat.le_trans hB4.size (k3 k hk)⟩
    · have HO2 : Hid (openP bs = ([], 4)) := by have := HO.out; rwa [if_neg hq] at this
      clear HO
      have hbq : ((nq : Int) != (cq : Int)) = true := by simpa using fun h => hq (by omega)
      iterate 2 (refine mixq rfl rfl ?_ (fun w' hw' => Or.inl ?_) (fun K hK => ?_); rotate_left; (focus (go_simp; rfl)); go_simp; refine hK _ ?_; clear hK K)
      refine mix_nil ?_
      go_wp2
      go_ret2
      rw [HO2.out]
      exact ⟨_, rfl, World.ownsRow_nil _ _ _ _, hB4, fun k hk => by simp [Value.ownBlock] at hk⟩
end Go.Proofs.Ytoloogpglnonaaa
