import Derived.Test.YtoloogpglnonaaaFew
namespace Go.Proofs.Ytoloogpglnonaaa
open Go.RowKit
/- The document's own writer. -/
structure RWr (w : World) (g : Nat) (v : Value) (xs : List UInt8) : Prop where
  blk : Blk w g 73 #[v]
  own : Own8 w v xs
def RWrOut (w : World) (g : Nat) (v : Value) (xs : List UInt8) (e : Ending) (w' : World) : Prop :=
  e = .returned (.tuple #[]) ∧ ∃ v', RWr w' g v' xs ∧ Chg (Wset g v) w w' ∧ (v'.ownBlock = v.ownBlock ∨ ∃ k, v'.ownBlock = some k ∧ w.heap.size ≤ k)
/-- One append behind, the slice laid back. -/
theorem RWr.step {w0 w w1 w2 : World} {g : Nat} {v0 v v' : Value} {xs ys us : List UInt8} {n : Nat} {cs : List Value} (h : RWr w g v xs) (hc : Chg (Wset g v0) w0 w) (hv : v.ownBlock = v0.ownBlock ∨ ∃ k, v.ownBlock = some k ∧ w0.heap.size ≤ k)
    (hb : Below w.heap.size w w1) (hown : w2.ownsRow 0 5 1 v' n cs) (hcs : cs = bvs xs ++ bvs ys) (hn : n = xs.length + ys.length)
    (hg : w1.grownBy w2 v.ownBlock) (hat : v'.ownBlock = v.ownBlock ∨ v'.ownBlock = some w1.heap.size) (hus : us = xs ++ ys) :
    RWr (w2.setCell ⟨g, 0, none⟩ v') g v' us ∧ Chg (Wset g v0) w0 (w2.setCell ⟨g, 0, none⟩ v') ∧ (v'.ownBlock = v0.ownBlock ∨ ∃ k, v'.ownBlock = some k ∧ w0.heap.size ≤ k) := by
  subst hus hcs hn
  have hne := h.own.ne h.blk (by decide)
  have b1 : Blk w1 g 73 #[v] := h.blk.chg (Chg.of_below hb) (S := fun _ => False) id
  have b2 := b1.grown hg (Ne.symm hne)
  have ho : Own8 w2 v' (xs ++ ys) := by unfold Own8; rw [List.length_append, bvs_append]; exact hown
  have hne2 := ho.ne b2 (by decide)
  refine ⟨⟨b2.set_ 0 v', ownsRow_setCell_other ho hne2 _⟩, ?_, ?_⟩
  · refine Chg.setCell (Chg.grown (hc.then_ (Chg.of_below hb) (fun _ _ hf => False.elim hf)) hg (fun k hk hlt => ?_)) (fun _ => .inl rfl) _
    rcases hv with e | ⟨j, e, hj⟩ <;> rw [hk] at e
    · exact .inr e.symm
    · injection e with e; omega
  · rcases hat with e | e
    · rcases hv with e1 | ⟨j, e1, hj⟩
      · exact .inl (e.trans e1)
      · exact .inr ⟨j, e.trans e1, hj⟩
    · exact .inr ⟨_, e, Nat.le_trans hc.size hb.size⟩
def les (n : Int) (k : Nat) : List UInt8 := (List.range k).map fun j => b8 (n / (256 : Int) ^ j)
theorem les_succ (n : Int) (k : Nat) : les n (k + 1) = les n k ++ [b8 (n / (256 : Int) ^ k)] := by unfold les; rw [List.range_succ, List.map_append]; rfl
theorem les_len (n : Int) (k : Nat) : (les n k).length = k := by simp [les]
theorem les1 (n : Int) : les n 1 = [b8 n] := by simp [les, List.range_succ]
theorem les2 (n : Int) : les n 2 = le16 n := by simp [les, List.range_succ, le16]
theorem les4 (n : Int) : les n 4 = le32 n := by simp [les, List.range_succ, le32]
theorem byte_of (n : Int) {k : Nat} (hk : k < 4) : (n % 18446744073709551616) / (256 : Int) ^ k % 256 = n / (256 : Int) ^ k % 256 := by
  match k, hk with
  | 0, _ => simp
  | 1, _ => simp; omega
  | 2, _ => simp; omega
  | 3, _ => simp; omega
set_option maxRecDepth 10000 in
set_option maxHeartbeats 1000000 in
theorem WNumber_calls (w : World) (g : Nat) (v : Value) (xs : List UInt8) (n : Int) (m : Nat) (h : RWr w g v xs) (hl : xs.length ≤ 1000000000) (hm : m ≤ 4) (n1 : -9223372036854775808 ≤ n) (n2 : n ≤ 9223372036854775807) :
    Calls Try.prog 37 #[.pointer (some ⟨g, 0, none⟩), .int .i64 n, .int .i64 m] w (RWrOut w g v (xs ++ les n m)) := by
  obtain ⟨i0, hi, hz0, hz1, hz2⟩ := info_parts Try.info_u8
  go_enter Try.func37, Try.ntmps37
  go_wp2
  go_loopw [6, 7] (fun u i wr => ∃ (k : Nat) (v' : Value), k ≤ m ∧ i = .int .i64 k ∧ u = .int .u64 (n % 18446744073709551616 / (256 : Int) ^ k) ∧ Hid (RWr wr g v' (xs ++ les n k)) ∧ Hid (Chg (Wset g v) w wr) ∧ Hid (v'.ownBlock = v.ownBlock ∨ ∃ k, v'.ownBlock = some k ∧ w.heap.size ≤ k)) (fun _ i _ => m - (intOf i).toNat)
  case atStart => exact ⟨0, v, Nat.zero_le _, rfl, by simp [IntKind.wrap_u64], (by simpa [les] using h : RWr w g v (xs ++ les n 0)), Chg.refl _ _, .inl rfl⟩
  case round =>
    obtain ⟨k, v1, hk, rfl, rfl, hW, hC, hv⟩ := hrel
    clear h
    by_cases hlt : k < m
    · have hby := byte_of n (k := k) (by omega)
      have hx1 : Hid (n % 18446744073709551616 / (256 : Int) ^ k / 256 = n % 18446744073709551616 / (256 : Int) ^ (k + 1)) := by
        show _ = _
        rw [Int.ediv_ediv_of_nonneg (Int.pow_nonneg (by decide)), Int.pow_succ]
      have hU0 : 0 ≤ n % 18446744073709551616 / (256 : Int) ^ k := Int.ediv_nonneg (Int.emod_nonneg _ (by decide)) (Int.pow_nonneg (by decide))
      have hU1 : n % 18446744073709551616 / (256 : Int) ^ k ≤ 18446744073709551615 := by
        have h1 := Int.ediv_le_self ((256 : Int) ^ k) (Int.emod_nonneg n (show (18446744073709551616 : Int) ≠ 0 by decide))
        have h2 := Int.emod_lt_of_pos n (show (0 : Int) < 18446744073709551616 by decide)
        omega
      have hby2 : Hid (n % 18446744073709551616 / (256 : Int) ^ k % 256 = n / (256 : Int) ^ k % 256) := hby
      clear hby
      generalize n % 18446744073709551616 / (256 : Int) ^ k = U at *
      have c0 := hW.out.blk.cell 0
      have f0 := hW.out.blk.frozen 0
      have hr := rd_new wr (bvs [b8 (n / (256 : Int) ^ k)]) 5 1 rfl
      have hlen : (xs ++ les n k).length ≤ 1000000004 := by rw [List.length_append, les_len]; omega
      have hr2 : Hid (Rd (wr.alloc (.cells #[.int .u8 (U % 256)] 5)) (.slice (some ⟨wr.heap.size, 0, none⟩) 1 1) (bvs [b8 (n / (256 : Int) ^ k)])) := by
        show Rd _ _ _
        rw [hby2.out]
        simp only [bvs, List.map_cons, List.map_nil, bv_b8] at hr ⊢
        exact hr
      have hlh := Lib.hid hlen
      clear hr hlen
      go_wp2_with (at_builtin; refine stop_app rfl ?_)
      refine Stop.mk (wpList_app _ rfl rfl (us := bvs [b8 (n / (256 : Int) ^ k)]) (base := 0) Try.underlying30 hi hz0 hz1 hz2 rfl (hW.out.own.alloc _) rfl hr2.out rfl (bvs_one _) ?_ ?_ (Nat.zero_le _) ?_)
      · have := hlh.out; unfold maxLen; simp only [bvs_length, List.length_cons, List.length_nil]; omega
      · have := hlh.out; simp only [bvs_length, List.length_cons, List.length_nil]; omega
      intro v2 w2 hown hg hat
      obtain ⟨N, A1, k1, HN, rfl, hown2⟩ := own_hide hown
      clear hown
      have b1 := (hW.out.blk.alloc _).grown hg (Ne.symm (hW.out.own.ne hW.out.blk (by decide))); have c1 := b1.cell 0; have f1 := b1.frozen 0
      obtain ⟨q1, q2, q3⟩ := RWr.step (us := xs ++ les n (k + 1)) hW.out hC.out hv.out ((Below.refl _ _).alloc (Nat.le_refl _) _) hown2 rfl (by rw [HN.out]; simp [bvs_length]) hg hat (by rw [les_succ, List.append_assoc])
      have q1 := Lib.hid q1
      have q2 := Lib.hid q2
      have q3 := Lib.hid q3
      go_wp2
      go_roundw
      case rel => exact ⟨k + 1, _, by omega, rfl, by rw [← hx1.out], q1, q2, q3⟩
      case measure => simp [intOf]; omega
    · have hk2 : Hid (k = m) := by show _ = _; omega
      go_wp2
      go_end0
      rw [hk2.out] at hW
      exact ⟨rfl, v1, hW.out, hC.out, hv.out⟩
end Go.Proofs.Ytoloogpglnonaaa
