/- Put on slots. -/
import Derived.Test.YtoloogpglnonaaaDp
namespace Go.Proofs.Ytoloogpglnonaaa
open Go.RowKit
def freeI (es : List Ent) : Int := findI (fun e => e.name == []) es 0
def putL (es : List Ent) (e : Ent) : List Ent := if freeI es < 0 then es ++ [e] else es.set (freeI es).toNat e
def putP (es : List Ent) (name : List UInt8) (ino : Int) : List Ent × Int × Int :=
  if nameP name = false then ([], 0, 12) else if (decide (1 ≤ ino) && decide (ino ≤ 65535)) = false then ([], 0, 1) else if 0 ≤ atP es name then ([], 0, 9) else
    (putL es ⟨name, ino⟩, (dblocks (putL es ⟨name, ino⟩).length : Int) - (dblocks es.length : Int), 0)
theorem dblocks_le (n : Nat) (h : n ≤ 1000000000) : dblocks n ≤ 1000000000000 := by unfold dblocks; omega
set_option maxRecDepth 10000 in
set_option maxHeartbeats 4000000 in
theorem Put_calls (w : World) (v : Value) (es : List Ent) (name : List UInt8) (ino : Int) (hv : RdE w v es) (hl : es.length ≤ 100000000) (hn : name.length ≤ 9223372036854775807) :
    Calls Try.prog 8 #[v, .string ⟨name.toArray⟩, .int .i64 ino] w (TripOut w (putP es name ino)) := by
  obtain ⟨i0, hi, hz0, hz1, hz2⟩ := info_parts Try.info_ent
  have HA := at_calls w v es name hv (by omega)
  have HN := Name_calls w name hn
  have HI := Lib.hid (isInode_calls w ino)
  have hv0 := Lib.hid hv
  obtain ⟨A, c, rfl⟩ := hv.shape
  have HF := fun W (h : Below w.heap.size w W) => idxB_calls W _ es (hv0.out.below h) (by omega)
  have HD1 := Lib.hid (fun W => dblocks_calls W es.length (by omega))
  unfold putP
  obtain ⟨nb, hnb⟩ : ∃ nb, nameP name = nb := ⟨_, rfl⟩
  rw [hnb] at HN ⊢
  have HN := Lib.hid HN
  clear hnb
  cases nb
  · rw [if_pos rfl]
    go_enter Try.func8, Try.ntmps8
    go_wp2_with fail
    refine HN.out.mono ?_
    rintro e w2 ⟨rfl, rfl⟩
    go_wp2
    go_ret3
    exact ⟨_, rfl, World.ownsRow_nil _ _ _ _, Below.refl _ _, fun k hk => by simp [Value.ownBlock] at hk⟩
  · rw [if_neg (by decide)]
    obtain ⟨ib, hib⟩ : ∃ ib, (decide (1 ≤ ino) && decide (ino ≤ 65535)) = ib := ⟨_, rfl⟩
    have HI2 := HI.out
    rw [hib] at HI2 ⊢
    have HI2 := Lib.hid HI2
    clear HI hib
    cases ib
    · rw [if_pos rfl]
      go_enter Try.func8, Try.ntmps8
      go_wp2_with fail
      refine HN.out.mono ?_
      rintro e w2 ⟨rfl, rfl⟩
      go_wp2_with fail
      refine HI2.out.mono ?_
      rintro e w2 ⟨rfl, rfl⟩
      go_wp2
      go_ret3
      exact ⟨_, rfl, World.ownsRow_nil _ _ _ _, Below.refl _ _, fun k hk => by simp [Value.ownBlock] at hk⟩
    · rw [if_neg (by decide)]
      rcases atP_cases es name with h | ⟨j, h, hj, _⟩
      rotate_left
      · rw [h] at HA ⊢
        rw [if_pos (by omega)]
        have HA := Lib.hid HA
        clear h
        go_enter Try.func8, Try.ntmps8
        go_wp2_with fail
        refine HN.out.mono ?_
        rintro e w2 ⟨rfl, rfl⟩
        go_wp2_with fail
        refine HI2.out.mono ?_
        rintro e w2 ⟨rfl, rfl⟩
        go_wp2_with fail
        refine HA.out.mono ?_
        rintro e w3 ⟨rfl, hB⟩
        go_wp2
        go_ret3
        exact ⟨_, rfl, World.ownsRow_nil _ _ _ _, hB, fun k hk => by simp [Value.ownBlock] at hk⟩
      · rw [h] at HA ⊢
        rw [if_neg (by decide)]
        have HA := Lib.hid HA
        clear h
        have hfc := findI_le (fun e => e.name == []) es 0
        obtain ⟨fi, hfi⟩ : ∃ fi, Hid (freeI es = fi) := ⟨_, Lib.hid rfl⟩
        change freeI es = -1 ∨ _ at hfc
        have hput : Hid (putL es ⟨name, ino⟩ = if fi < 0 then es ++ [⟨name, ino⟩] else es.set fi.toNat ⟨name, ino⟩) := by
          show _ = _
          unfold putL
          rw [hfi.out]
        change ∀ W, _ → Calls _ _ _ _ (IntOut W (freeI es)) at HF
        rw [hfi.out] at hfc HF
        have HF := Lib.hid HF
        rcases hfc with hf | ⟨j, hf, hj, _⟩
        · subst hf
          have hout : Hid (putL es ⟨name, ino⟩ = es ++ [⟨name, ino⟩]) := by show _ = _; rw [hput.out, if_pos (by decide)]
          have hlen : Hid ((putL es ⟨name, ino⟩).length = es.length + 1) := by show _ = _; rw [hout.out, List.length_append]; rfl
          have HD2 := Lib.hid (fun W => dblocks_calls W (es.length + 1) (by omega))
          have hd1 := dblocks_le es.length (by omega)
          have hd2 := dblocks_le (es.length + 1) (by omega)
          rw [hlen.out]
          generalize dblocks es.length = b1 at *
          generalize dblocks (es.length + 1) = b2 at *
          generalize putL es ⟨name, ino⟩ = out at *
          go_enter Try.func8, Try.ntmps8
          go_wp2_with fail
          refine HN.out.mono ?_
          rintro e w2 ⟨rfl, rfl⟩
          go_wp2_with fail
          refine HI2.out.mono ?_
          rintro e w2 ⟨rfl, rfl⟩
          go_wp2_with fail
          refine HA.out.mono ?_
          rintro e w3 ⟨rfl, hB⟩
          go_wp2_with fail
          refine (CloneE_calls w3 _ es (hv0.out.below hB) (by omega)).mono ?_
          rintro e w4 ⟨v4, rfl, ho4, hB4, hf4⟩
          have hB4' := hB.trans (hB4.mono hB.size)
          obtain ⟨A4, c4, rfl⟩ := ho4.shape
          go_wp2_with fail
          refine (HF.out w4 hB4').mono ?_
          rintro e w5 ⟨rfl, hB5⟩
          have hB5' := hB4'.trans (hB5.mono hB4'.size)
          have ho5 : OwnE w5 (.slice A4 es.length c4) es := World.ownsRow.kept (row := none) ho4 ⟨hB5.os, hB5.tape, hB5.output, hB5.size, fun k hk _ => hB5.block k hk⟩ (by cases (Value.slice A4 es.length c4).ownBlock <;> simp)
          have hf5 : ∀ k, (Value.slice A4 es.length c4).ownBlock = some k → w.heap.size ≤ k := fun k hk => Nat.le_trans hB.size (hf4 k hk)
          have hB5' := Lib.hid hB5'
          have hf5 := Lib.hid hf5
          have ho5 := Lib.hid ho5
          clear ho4 hB4 hf4 hB4' hB5 hB
          go_wp2_with (at_builtin; refine stop_app rfl ?_)
          have hbn : Blk (w5.alloc (.cells (cellsE [⟨[], 0⟩]).toArray 43)) w5.heap.size 43 (cellsE [⟨[], 0⟩]).toArray := Blk.new _ _ _
          refine Stop.mk (wpList_appK _ rfl rfl (base := 0) (news := cellsE [⟨[], 0⟩]) (m := 1) Try.underlying25 hi hz0 hz1 hz2 rfl (by decide) (World.ownsRow.alloc ho5.out _) rfl rfl (fun _ => ⟨⟨w5.heap.size, 0, none⟩, rfl, fun j u hu => by rw [addr_add_at, Nat.zero_add]; exact (hbn.cell j).trans (by simpa using hu)⟩) rfl (cellsE_one _) ?_ ?_ (Nat.zero_le _) ?_)
          · unfold maxLen; omega
          · omega
          intro v6 w6 hown hg hat
          have ho6 : OwnE w6 v6 (es ++ [⟨[], 0⟩]) := by
            unfold OwnE
            rw [List.length_append, cellsE_app]
            exact hown
          have hB6 : Below w.heap.size w w6 := (hB5'.out.alloc hB5'.out.size _).grown hg (by have := hB5'.out.size; simp; omega) (fun k hk => hf5.out k hk)
          have hf6 : ∀ k, v6.ownBlock = some k → w.heap.size ≤ k := fun k hk => by
            rcases hat with e | e <;> rw [hk] at e
            · exact hf5.out k e.symm
            · injection e with e
              have := hB5'.out.size
              simp at e
              omega
          obtain ⟨g6, c6, rfl⟩ := ho6.form (by rw [List.length_append]; simp)
          have hl6 : (es ++ [(⟨[], 0⟩ : Ent)]).length = es.length + 1 := by rw [List.length_append]; rfl
          obtain ⟨x0, x1, d0, d1, f0, f1⟩ : ∃ x0 x1, w6.cell? ⟨g6, es.length * 2, none⟩ = some x0 ∧ w6.cell? ⟨g6, es.length * 2 + 1, none⟩ = some x1 ∧ w6.frozen? ⟨g6, es.length * 2, none⟩ = false ∧ w6.frozen? ⟨g6, es.length * 2 + 1, none⟩ = false := ⟨_, _, ho6.cell es.length (by rw [hl6]; omega)⟩
          have hput6 := ho6.put rfl es.length (by rw [hl6]; omega) ⟨name, ino⟩
          have hset : (es ++ [(⟨[], 0⟩ : Ent)]).set es.length ⟨name, ino⟩ = out := by rw [hout.out, List.set_append_right _ _ (Nat.le_refl _)]; simp
          rw [hset, hl6] at hput6
          rw [hl6]
          have hput6 := Lib.hid hput6
          have hg6 := hf6 g6 rfl
          have hB7 : Hid (Below w.heap.size w ((w6.setCell ⟨g6, es.length * 2, none⟩ (.string ⟨name.toArray⟩)).setCell ⟨g6, es.length * 2 + 1, none⟩ (.int .i64 ino))) := (hB6.setCell (p := ⟨g6, es.length * 2, none⟩) hg6 _).setCell (p := ⟨g6, es.length * 2 + 1, none⟩) hg6 _
          have hg6 := Lib.hid hg6
          clear ho6 hown hg hat hB6 hf6 hset hl6 hbn
          go_wp2_with fail
          refine (HD2.out _).mono ?_
          rintro e w8 ⟨rfl, rfl⟩
          go_wp2_with fail
          refine (HD1.out _).mono ?_
          rintro e w8 ⟨rfl, rfl⟩
          go_wp2
          go_ret3
          exact ⟨_, rfl, hput6.out, hB7.out, fun k hk => by simp [Value.ownBlock] at hk; have := hg6.out; omega⟩
        · rw [Nat.zero_add] at hf
          have hf : fi = (j : Int) := hfi.out.symm.trans hf
          clear hfi
          subst hf
          have hout : Hid (putL es ⟨name, ino⟩ = es.set j ⟨name, ino⟩) := by show _ = _; rw [hput.out, if_neg (by omega), Int.toNat_natCast]
          have hlen : Hid ((putL es ⟨name, ino⟩).length = es.length) := by show _ = _; rw [hout.out, List.length_set]
          have hd1 := dblocks_le es.length (by omega)
          rw [hlen.out]
          generalize dblocks es.length = b1 at *
          generalize putL es ⟨name, ino⟩ = out at *
          go_enter Try.func8, Try.ntmps8
          go_wp2_with fail
          refine HN.out.mono ?_
          rintro e w2 ⟨rfl, rfl⟩
          go_wp2_with fail
          refine HI2.out.mono ?_
          rintro e w2 ⟨rfl, rfl⟩
          go_wp2_with fail
          refine HA.out.mono ?_
          rintro e w3 ⟨rfl, hB⟩
          go_wp2_with fail
          refine (CloneE_calls w3 _ es (hv0.out.below hB) (by omega)).mono ?_
          rintro e w4 ⟨v4, rfl, ho4, hB4, hf4⟩
          have hB4' := hB.trans (hB4.mono hB.size)
          obtain ⟨g4, c4, rfl⟩ := ho4.form (by omega)
          go_wp2_with fail
          refine (HF.out w4 hB4').mono ?_
          rintro e w5 ⟨rfl, hB5⟩
          have hB5' := hB4'.trans (hB5.mono hB4'.size)
          have ho5 : OwnE w5 (.slice (some ⟨g4, 0, none⟩) es.length c4) es := World.ownsRow.kept (row := none) ho4 ⟨hB5.os, hB5.tape, hB5.output, hB5.size, fun k hk _ => hB5.block k hk⟩ (by simp [Value.ownBlock])
          obtain ⟨d0, d1, f0, f1⟩ := ho5.cell j hj
          have hput6 := ho5.put rfl j hj ⟨name, ino⟩
          rw [← hout.out] at hput6
          have hput6 := Lib.hid hput6
          have hg6 : w.heap.size ≤ g4 := Nat.le_trans hB.size (hf4 g4 rfl)
          have hB7 : Hid (Below w.heap.size w ((w5.setCell ⟨g4, j * 2, none⟩ (.string ⟨name.toArray⟩)).setCell ⟨g4, j * 2 + 1, none⟩ (.int .i64 ino))) := (hB5'.setCell (p := ⟨g4, j * 2, none⟩) hg6 _).setCell (p := ⟨g4, j * 2 + 1, none⟩) hg6 _
          have hg6 := Lib.hid hg6
          clear ho4 hB4 hf4 hB4' hB5 hB hB5' ho5
          go_wp2_with fail
          refine (HD1.out _).mono ?_
          rintro e w8 ⟨rfl, rfl⟩
          go_wp2_with fail
          refine (HD1.out _).mono ?_
          rintro e w8 ⟨rfl, rfl⟩
          go_wp2
          go_ret3
          exact ⟨_, by simp, hput6.out, hB7.out, fun k hk => by simp [Value.ownBlock] at hk; have := hg6.out; omega⟩
end Go.Proofs.Ytoloogpglnonaaa
