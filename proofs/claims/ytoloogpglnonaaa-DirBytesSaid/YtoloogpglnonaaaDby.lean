/- A directory's bytes. -/
import Derived.Test.YtoloogpglnonaaaDe
namespace Go.Proofs.Ytoloogpglnonaaa
open Go.RowKit
def slotB (e : Ent) : List UInt8 := if e.name = [] then List.replicate 64 0 else encE e
def slotsB (es : List Ent) : List UInt8 := es.flatMap slotB
theorem slotB_len (e : Ent) : (slotB e).length = 64 := by
  unfold slotB
  split
  · simp
  · exact encE_len e
theorem slotsB_len : ∀ (es : List Ent), (slotsB es).length = es.length * 64
  | [] => rfl
  | e :: r => by
    have := slotsB_len r
    unfold slotsB at *
    rw [List.flatMap_cons, List.length_append, slotB_len, this, List.length_cons]
    omega
theorem slotsB_succ (es : List Ent) (k : Nat) (h : k < es.length) : slotsB (es.take (k + 1)) = slotsB (es.take k) ++ slotB es[k] := by
  unfold slotsB
  rw [List.take_succ_eq_append_getElem h, List.flatMap_append]
  simp
def padB (n : Nat) : Nat := dblocks n - n * 64
theorem padB_le (n : Nat) : padB n ≤ 511 ∧ n * 64 + padB n = dblocks n := by
  unfold padB dblocks
  omega
def dbytes (es : List Ent) : List UInt8 := slotsB es ++ List.replicate (padB es.length) 0
theorem dbytes_len (es : List Ent) : (dbytes es).length = dblocks es.length := by
  unfold dbytes
  rw [List.length_append, slotsB_len, List.length_replicate]
  exact (padB_le _).2
theorem pad_and (n : Nat) : bits .and .i64 (-((n : Int) * 64)) 511 = (padB n : Int) := by
  rw [show (511 : Int) = ((2 ^ 9 - 1 : Nat) : Int) from rfl, and_mask _ 9 (by decide)]
  unfold padB dblocks
  omega
set_option maxRecDepth 10000 in
set_option maxHeartbeats 4000000 in
theorem Bytes_calls (w : World) (v : Value) (es : List Ent) (hv : RdE w v es) (hl : es.length ≤ 1000000) (hn : ∀ e ∈ es, e.name.length ≤ 1000000) :
    Calls Try.prog 10 #[v] w (ByOut w (dbytes es)) := by
  obtain ⟨i0, hi, hz0, hz1, hz2⟩ := info_parts Try.info_u8
  have hv0 := Lib.hid hv
  have hn0 := Lib.hid hn
  obtain ⟨A, c, rfl⟩ := hv.shape
  clear hv hn
  go_enter Try.func10, Try.ntmps10
  go_wp2
  go_loopw [3, 8] (fun o i wr => ∃ (k : Nat) (A1 : Option Addr) (c1 : Nat), k ≤ es.length ∧ i = .int .i64 k ∧ o = .slice A1 (k * 64) c1 ∧ Hid (wr.ownsRow 0 5 1 (.slice A1 (k * 64) c1) (k * 64) (bvs (slotsB (es.take k)))) ∧ Hid (Below w.heap.size w wr) ∧ Hid (∀ j, (Value.slice A1 (k * 64) c1).ownBlock = some j → w.heap.size ≤ j)) (fun _ i _ => es.length - (intOf i).toNat)
  case atStart => exact ⟨0, none, 0, Nat.zero_le _, rfl, rfl, World.ownsRow_nil _ _ _ _, Below.refl _ _, fun j hj => by simp [Value.ownBlock] at hj⟩
  case round =>
    obtain ⟨k, A1, c1, hk, rfl, rfl, hO, hB, hf⟩ := hrel
    by_cases hlt : k < es.length
    · obtain ⟨ad, rfl, d0, d1⟩ := (hv0.out.below hB.out).at_ hlt
      have hsu := Lib.hid (slotsB_succ es k hlt)
      have hnk : es[k].name.length ≤ 1000000 := hn0.out _ (List.getElem_mem _)
      have hsl := Lib.hid (slotB_len es[k])
      obtain ⟨sb, hsb⟩ : ∃ sb, Hid (slotB es[k] = sb) := ⟨_, Lib.hid rfl⟩
      rw [hsb.out] at hsu hsl
      have hsb2 : Hid ((if es[k].name = [] then List.replicate 64 0 else encE es[k]) = sb) := hsb
      clear hsb
      generalize es[k] = ek at *
      by_cases he : ek.name = []
      · have hsb3 : Hid (List.replicate 64 0 = sb) := by
          have h := hsb2.out
          rw [if_pos he] at h
          exact h
        rw [he] at d0
        clear hsb2
        go_wp2_with (at_builtin; refine stop_app rfl ?_)
        refine Stop.mk (wpList_app0 _ rfl rfl (m := 64) Try.underlying30 Try.underlying3 hi hz0 hz1 hz2 (by decide) rfl rfl (World.ownsRow.alloc hO.out _) rfl rfl ?_ (Nat.zero_le _) ?_)
        · omega
        intro v6 w6 hown hg hat
        obtain ⟨A6, c6, rfl⟩ := own_shape hown
        rw [show k * 64 + 64 = (k + 1) * 64 by omega] at *
        have hB6 : Hid (Below w.heap.size w w6) := (hB.out.alloc hB.out.size _).grown hg (by have := hB.out.size; simp; omega) (fun j hj => hf.out j hj)
        have hf6 : Hid (∀ j, (Value.slice A6 ((k + 1) * 64) c6).ownBlock = some j → w.heap.size ≤ j) := fun j hj => by
          rcases hat with e | e <;> rw [hj] at e
          · exact hf.out j e.symm
          · injection e with e
            have := hB.out.size
            simp at e
            omega
        have hO6 : Hid (w6.ownsRow 0 5 1 (.slice A6 ((k + 1) * 64) c6) ((k + 1) * 64) (bvs (slotsB (es.take (k + 1))))) := by
          show World.ownsRow _ _ _ _ _ _ _
          rw [hsu.out, bvs_append, ← hsb3.out]
          exact hown
        clear hown hg hat
        go_wp2
        go_roundw
        case rel => exact ⟨k + 1, A6, c6, by omega, rfl, rfl, hO6, hB6, hf6⟩
        case measure => simp [intOf]; omega
      · have hsb3 : Hid (encE ek = sb) := by
          have h := hsb2.out
          rw [if_neg he] at h
          exact h
        clear hsb2
        have hne : (ek.name == []) = false := by rw [beq_eq_false_iff_ne]; exact he
        obtain ⟨wm, hwm⟩ : ∃ wm, wm = wr.alloc (.cells #[.string ⟨ek.name.toArray⟩, .int .i64 ek.ino] 43) := ⟨_, rfl⟩
        have hBm : Below w.heap.size w wm := by rw [hwm]; exact hB.out.alloc hB.out.size _
        have hOm : wm.ownsRow 0 5 1 (.slice A1 (k * 64) c1) (k * 64) (bvs (slotsB (es.take k))) := by rw [hwm]; exact World.ownsRow.alloc hO.out _
        have hBm := Lib.hid hBm
        have hOm := Lib.hid hOm
        have HE : Hid (Calls Try.prog 17 #[.agg #[.string ⟨ek.name.toArray⟩, .int .i64 ek.ino]] wm (ByOut wm (encE ek))) := EncodeE_calls wm ek hnk
        go_wp2_with fail
        rw [← hwm]
        clear hwm
        refine HE.out.mono ?_
        rintro e w5 ⟨r5, rfl, ho5, hB5, hf5⟩
        have hB5' := hBm.out.trans (hB5.mono hBm.out.size)
        have hO5 : w5.ownsRow 0 5 1 (.slice A1 (k * 64) c1) (k * 64) (bvs (slotsB (es.take k))) := World.ownsRow.kept (row := none) hOm.out ⟨hB5.os, hB5.tape, hB5.output, hB5.size, fun k hk _ => hB5.block k hk⟩ (by cases (Value.slice A1 (k * 64) c1).ownBlock <;> simp)
        have hr5 := Rd.of_own ho5
        obtain ⟨A5, c5, rfl⟩ := hr5.shape8
        have hl5 := Lib.hid (encE_len ek)
        clear ho5
        have hB5' := Lib.hid hB5'
        clear hB5
        go_wp2_with (at_builtin; refine stop_app rfl ?_)
        refine Stop.mk (wpList_app _ rfl rfl (us := bvs (encE ek)) (base := 0) Try.underlying30 hi hz0 hz1 hz2 rfl hO5 rfl hr5 rfl (bvs_one _) ?_ ?_ (Nat.zero_le _) ?_)
        · rw [bvs_length, hl5.out]; unfold maxLen; omega
        · rw [bvs_length, hl5.out]; omega
        intro v6 w6 hown hg hat
        rw [bvs_length, hl5.out] at hown
        obtain ⟨A6, c6, rfl⟩ := own_shape hown
        rw [show k * 64 + 64 = (k + 1) * 64 by omega] at *
        have hB6 : Hid (Below w.heap.size w w6) := hB5'.out.grown hg hB5'.out.size (fun j hj => hf.out j hj)
        have hf6 : Hid (∀ j, (Value.slice A6 ((k + 1) * 64) c6).ownBlock = some j → w.heap.size ≤ j) := fun j hj => by
          rcases hat with e | e <;> rw [hj] at e
          · exact hf.out j e.symm
          · injection e with e
            have := hB5'.out.size
            omega
        have hO6 : Hid (w6.ownsRow 0 5 1 (.slice A6 ((k + 1) * 64) c6) ((k + 1) * 64) (bvs (slotsB (es.take (k + 1))))) := by
          show World.ownsRow _ _ _ _ _ _ _
          rw [hsu.out, bvs_append, ← hsb3.out]
          exact hown
        clear hown hg hat hr5 hf5 hl5
        go_wp2
        go_roundw
        case rel => exact ⟨k + 1, A6, c6, by omega, rfl, rfl, hO6, hB6, hf6⟩
        case measure => simp [intOf]; omega
    · obtain rfl : k = es.length := by omega
      rw [List.take_length] at hO
      have hpad := pad_and es.length
      have hpl := padB_le es.length
      have hbl : Hid (slotsB es ++ List.replicate (padB es.length) 0 = dbytes es) := rfl
      have hbn := Lib.hid (dbytes_len es)
      have hpl2 := Lib.hid hpl.2
      have hpl1 := hpl.1
      clear hpl
      generalize padB es.length = pd at *
      go_wp2_with (at_builtin; refine stop_app rfl ?_)
      refine Stop.mk (wpList_app0 _ rfl rfl (m := pd) Try.underlying30 Try.underlying3 hi hz0 hz1 hz2 (by decide) rfl rfl hO.out rfl ?_ ?_ (Nat.zero_le _) ?_)
      · rfl
      · omega
      intro v6 w6 hown hg hat
      go_wp2
      go_ret
      refine ⟨v6, rfl, ?_, hB.out.grown hg hB.out.size (fun j hj => hf.out j hj), fun j hj => ?_⟩
      · unfold Own8
        rw [hbn.out, ← hpl2.out, ← hbl.out, bvs_append]
        have e : bvs (List.replicate pd 0) = List.replicate pd (.int .u8 0) := by simp [bvs, bv]
        rw [e]
        exact hown
      · rcases hat with e | e <;> rw [hj] at e
        · exact hf.out j e.symm
        · injection e with e
          have := hB.out.size
          omega
end Go.Proofs.Ytoloogpglnonaaa
