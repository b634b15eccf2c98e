import Derived.Test.YtefbmbfhhhjgkaaBh
import Derived.WalkSpells
namespace Go.Proofs.Ytefbmbfhhhjgkaa
open Go.RowKit

/-- A Writer: block g holds the slice v, its bytes are xs. -/
structure Wr (w : World) (g : Nat) (v : Value) (xs : List UInt8) : Prop where
  blk : Blk w g 113 #[v]
  own : Own8 w v xs

def Wset (g : Nat) (v : Value) : Nat → Prop := fun k => k = g ∨ v.ownBlock = some k


def WrNew (w : World) (e : Ending) (w' : World) : Prop := ∃ g, e = .returned (.pointer (some ⟨g, 0, none⟩)) ∧ w.heap.size ≤ g ∧ Wr w' g (.slice none 0 0) [] ∧ Below w.heap.size w w'
theorem NewWriter_calls (w : World) : Calls Try.prog 75 #[] w (WrNew w) := by
  go_enter Try.func75, Try.ntmps75
  go_wp2
  go_ret
  refine ⟨_, rfl, Nat.le_refl _, ⟨Blk.new _ _ _, World.ownsRow_nil _ _ _ _⟩, (Below.refl _ _).alloc (Nat.le_refl _) _⟩

/-- What a method of a Writer leaves: ys behind xs. -/
def WrOut (w : World) (g : Nat) (v : Value) (xs : List UInt8) (e : Ending) (w' : World) : Prop :=
  e = .returned (.tuple #[]) ∧ ∃ v', Wr w' g v' xs ∧ Chg (Wset g v) w w' ∧ (v'.ownBlock = v.ownBlock ∨ ∃ k, v'.ownBlock = some k ∧ w.heap.size ≤ k)

theorem WrOut.mk {w w1 w2 : World} {g : Nat} {v v' : Value} {xs ys us : List UInt8} (h : Wr w g v xs) (hb : Below w.heap.size w w1) (hown : w2.ownsRow 0 5 1 v' (xs.length + ys.length) (bvs xs ++ bvs ys))
    (hg : w1.grownBy w2 v.ownBlock) (hat : v'.ownBlock = v.ownBlock ∨ v'.ownBlock = some w1.heap.size) (hus : us = xs ++ ys) : WrOut w g v us (.returned (.tuple #[])) (w2.setCell ⟨g, 0, none⟩ v') := by
  subst hus
  have hne := h.own.ne h.blk (by decide)
  have b1 : Blk w1 g 113 #[v] := h.blk.chg (Chg.of_below hb) (S := fun _ => False) id
  have b2 := b1.grown hg (Ne.symm hne)
  have ho : Own8 w2 v' (xs ++ ys) := by unfold Own8; rw [List.length_append, bvs_append]; exact hown
  have hne2 := ho.ne b2 (by decide)
  refine ⟨rfl, v', ⟨b2.set_ 0 v', ownsRow_setCell_other ho hne2 _⟩, ?_, ?_⟩
  · refine Chg.setCell (Chg.grown ((Chg.of_below hb).mono (fun _ _ hf => False.elim hf)) hg (fun k hk _ => .inr hk)) (fun _ => .inl rfl) _
  · rcases hat with e | e
    · exact .inl e
    · exact .inr ⟨_, e, hb.size⟩

set_option maxRecDepth 10000 in
set_option maxHeartbeats 400000 in
theorem U16_calls (w : World) (g : Nat) (v : Value) (xs : List UInt8) (n : Int) (h : Wr w g v xs) (hl : xs.length ≤ 1000000000) :
    Calls Try.prog 77 #[.pointer (some ⟨g, 0, none⟩), .int .i64 n] w (WrOut w g v (xs ++ le16 n)) := by
  unfold le16
  obtain ⟨i0, hi, hz0, hz1, hz2⟩ := info_parts Try.info_u8
  have c0 := h.blk.cell 0
  have f0 := h.blk.frozen 0
  have hr := rd_new w (bvs [b8 n, b8 (n / 256)]) 5 2 rfl
  go_enter Try.func77, Try.ntmps77
  go_wp2_with (at_builtin; refine stop_app rfl ?_)
  refine Stop.mk (wpList_app _ rfl rfl (us := bvs [b8 n, b8 (n / 256)]) (base := 0) Try.underlying63 hi hz0 hz1 hz2 rfl (h.own.alloc _) rfl ?_ rfl (bvs_one _) ?_ ?_ (Nat.zero_le _) ?_)
  · simp only [bvs, List.map_cons, List.map_nil, bv_b8] at hr ⊢
    exact hr
  · unfold maxLen; simp [bvs]; omega
  · simp [bvs]; omega
  intro v1 w1 hown hg hat
  obtain ⟨A1, k1, rfl⟩ := own_shape hown
  have b1 := (h.blk.alloc _).grown hg (Ne.symm (h.own.ne h.blk (by decide))); have c1 := b1.cell 0; have f1 := b1.frozen 0
  go_wp2
  go_end0
  exact WrOut.mk h ((Below.refl _ _).alloc (Nat.le_refl _) _) hown hg hat rfl
theorem WrOut.mk2 {w w2 : World} {g n : Nat} {v v0 v' : Value} {us : List UInt8} {cs : List Value} (b2 : Blk w2 g 113 #[v]) (hown : w2.ownsRow 0 5 1 v' n cs) (hn : n = us.length) (hcs : cs = bvs us)
    (hc : Chg (Wset g v0) w w2) (hat : v'.ownBlock = v0.ownBlock ∨ ∃ k, v'.ownBlock = some k ∧ w.heap.size ≤ k) : WrOut w g v0 us (.returned (.tuple #[])) (w2.setCell ⟨g, 0, none⟩ v') := by
  subst hn hcs
  exact ⟨rfl, v', ⟨b2.set_ 0 v', ownsRow_setCell_other hown (own_ne hown b2 (by decide)) _⟩, hc.setCell (fun _ => .inl rfl) _, hat⟩
set_option maxRecDepth 10000 in
set_option maxHeartbeats 400000 in
theorem Fixed_calls (w : World) (g : Nat) (v x : Value) (xs bs : List UInt8) (size : Int) (sz : Nat) (h : Wr w g v xs) (hx : Rd w x (bvs bs)) (hl : xs.length ≤ 1000000000) (hb : bs.length ≤ 1000000000) (hs : min (max size 0) 65536 = (sz : Int)) :
    Calls Try.prog 76 #[.pointer (some ⟨g, 0, none⟩), x, .int .i64 size] w (WrOut w g v (xs ++ (bs.take sz ++ List.replicate (sz - bs.length) 0))) := by
  obtain ⟨i0, hi, hz0, hz1, hz2⟩ := info_parts Try.info_u8
  obtain ⟨A, c, rfl, hc, hr⟩ := hx
  rw [bvs_length] at *
  have m1 := run_imax (P := Try.prog) size 0
  have m2 := run_imin (P := Try.prog) (imax size 0) 65536
  rw [show imin (imax size 0) 65536 = (sz : Int) from hs] at m2
  have m3 := run_imin (P := Try.prog) (bs.length : Int) (sz : Int)
  obtain ⟨n, hn⟩ : ∃ n : Nat, n = min bs.length sz := ⟨_, rfl⟩
  rw [show imin (bs.length : Int) (sz : Int) = (n : Int) from by unfold imin; omega] at m3
  have hn1 : n ≤ bs.length := by omega
  have hn2 : n ≤ sz := by omega
  have hn3 : n ≤ c := by omega
  have hsz : sz ≤ 65536 := by omega
  have HN := Lib.hid hn
  have HS := Lib.hid hs
  clear hn hs
  go_enter Try.func76, Try.ntmps76
  go_wp2
  clear m1 m2 m3
  have hrd : Rd w.drew (.slice A n n) (bvs (bs.take n)) := Rd.drew (rd_take ⟨A, c, by rw [bvs_length], by rw [bvs_length]; exact hc, hr⟩ hn1)
  have how : w.drew.ownsRow 0 5 1 v xs.length (bvs xs) := h.own
  refine wp_mix_tail (fun W => Blk W g 113 #[v]) [9, 12] (by kernel_rfl) (by kernel_rfl) (by kernel_rfl) (by kernel_rfl) h.blk ?_
  iterate 9 (refine mixq rfl rfl ?_ (fun w' hw' => Or.inl ?_) (fun K hK => ?_); rotate_left; (focus (have c0 := Blk.cell hw' 0; go_simp; rfl)); go_simp; refine hK _ ?_; clear hK K)
  refine mixl rfl rfl (fun K hK => ?_)
  refine wp_app _ rfl (us := bvs (bs.take n)) (base := 0) Try.underlying63 hi hz0 hz1 hz2 rfl how rfl hrd rfl (bvs_one _) ?_ ?_ (Nat.zero_le _) ?_
  · unfold maxLen; simp [bvs_length]; omega
  · simp [bvs_length]; omega
  intro v1 w1 hown hg hat
  obtain ⟨A1, k1, rfl⟩ := own_shape hown
  have b1 := Blk.grown (h.blk.drew) hg (Ne.symm (h.own.ne h.blk (by decide)))
  go_simp
  refine hK _ _ (fun _ => b1) ?_
  clear hK K
  iterate 2 (refine mixq rfl rfl ?_ (fun w' hw' => Or.inl ?_) (fun K hK => ?_); rotate_left; (focus (have c0 := Blk.cell hw' 0; go_simp; rfl)); go_simp; refine hK _ ?_; clear hK K)
  refine mixl rfl rfl (fun K hK => ?_)
  have c1 := b1.cell 0; have f1 := b1.frozen 0
  go_simp
  refine hK _ _ (fun hf => (by cases hf)) (mix_nil ?_)
  clear hK K
  have bb := b1.set_ 0 (Value.slice A1 (xs.length + (bvs (List.take n bs)).length) k1)
  have oo := ownsRow_setCell_other hown (a := ⟨g, 0, none⟩) (by exact own_ne hown b1 (by decide)) (Value.slice A1 (xs.length + (bvs (List.take n bs)).length) k1)
  have d0 := bb.cell 0
  have g0 := bb.frozen 0
  have hsub : (sz : Int) - n = ((sz - n : Nat) : Int) := by omega
  have HSUB := Lib.hid hsub
  clear hsub
  go_wp2_with (at_builtin; refine stop_app rfl ?_)
  refine Stop.mk (wpList_app0 _ rfl rfl (m := sz - n) Try.underlying63 Try.underlying3 hi hz0 hz1 hz2 (by decide) rfl rfl oo rfl (congrArg (Value.int .i64) HSUB.out) ?_ (Nat.zero_le _) ?_)
  · simp [bvs_length]; omega
  intro v2 w2 hown2 hg2 hat2
  obtain ⟨A2, k2, rfl⟩ := own_shape hown2
  have b2 := bb.grown hg2 (Ne.symm (own_ne oo bb (by decide)))
  have e0 := b2.cell 0
  have f0 := b2.frozen 0
  go_wp2
  go_end0
  refine WrOut.mk2 b2 (us := xs ++ (bs.take sz ++ List.replicate (sz - bs.length) 0)) hown2 ?_ ?_ (((((Chg.refl _ w).drew).grown hg (fun k hk _ => .inr hk)).setCell (p := ⟨g, 0, none⟩) (fun _ => .inl rfl) _).grown hg2 ?_) ?_
  · have := HN.out; simp only [bvs_length, List.length_append, List.length_take, List.length_replicate]; omega
  · rw [HN.out, bvs_append, bvs_append, List.append_assoc]
    congr 1
    have e1 : bs.take (min bs.length sz) = bs.take sz := by rw [Nat.min_comm]; exact List.take_eq_take_min.symm
    rw [e1, show sz - min bs.length sz = sz - bs.length from by omega]
    congr 1
    simp [bvs, bv]
  · intro k hk hlt
    rcases hat with e | e <;> rw [e] at hk
    · exact .inr hk
    · injection hk with hk; rw [← hk] at hlt; exact absurd hlt (Nat.lt_irrefl _)
  · rcases hat2 with e | e
    · rcases hat with e' | e'
      · exact .inl (e.trans e')
      · exact .inr ⟨_, e.trans e', Nat.le_refl _⟩
    · exact .inr ⟨_, e, by have := hg.size; simpa [World.setCell] using this⟩

set_option maxRecDepth 10000 in
set_option maxHeartbeats 400000 in
theorem Done_calls (w : World) (g : Nat) (v : Value) (xs : List UInt8) (h : Wr w g v xs) (hl : xs.length ≤ 1000000000) :
    Calls Try.prog 78 #[.pointer (some ⟨g, 0, none⟩)] w (ByOut w xs) := by
  have hr : Rd w v (bvs xs) := Rd.of_own h.own
  have c0 := h.blk.cell 0
  have f0 := h.blk.frozen 0
  go_enter Try.func78, Try.ntmps78
  go_wp2_with fail
  refine (Clone8_calls w v xs hr hl).mono ?_
  rintro e w1 ⟨r, rfl, h1, h2, h3⟩
  go_wp2
  go_ret
  exact ⟨r, rfl, h1, h2, h3⟩

end Go.Proofs.Ytefbmbfhhhjgkaa
