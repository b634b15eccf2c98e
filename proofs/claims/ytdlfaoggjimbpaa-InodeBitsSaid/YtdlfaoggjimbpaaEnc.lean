/- A node's bytes. -/
import Derived.Test.YtdlfaoggjimbpaaIn2
namespace Go.Proofs.Ytdlfaoggjimbpaa
open Go.RowKit
structure Nd where
  (kind links size d0 d1 d2 d3 d4 d5 d6 d7 one two : Int)
def Nd.cells (n : Nd) : Array Value := #[.int .i64 n.kind, .int .i64 n.links, .int .i64 n.size, .int .i64 n.d0, .int .i64 n.d1, .int .i64 n.d2, .int .i64 n.d3, .int .i64 n.d4, .int .i64 n.d5, .int .i64 n.d6, .int .i64 n.d7, .int .i64 n.one, .int .i64 n.two]
def Nd.ds (n : Nd) : List Int := [n.d0, n.d1, n.d2, n.d3, n.d4, n.d5, n.d6, n.d7]
def encH (n : Nd) : List UInt8 := [] ++ [b8 n.kind] ++ [b8 0] ++ le16 n.links ++ le32 n.size
def encD (n : Nd) (k : Nat) : List UInt8 := encH n ++ (n.ds.take k).flatMap le32
def encT (n : Nd) : List UInt8 := encD n 8 ++ le32 n.one ++ le32 n.two
def encB (n : Nd) : List UInt8 := encT n ++ (([] : List UInt8).take 12 ++ List.replicate (12 - ([] : List UInt8).length) 0)
def encP (n : Nd) : List UInt8 := sealP (encB n)
theorem encH_len (n : Nd) : (encH n).length = 8 := rfl
theorem flat_len : ∀ (l : List Int), (l.flatMap le32).length = 4 * l.length
  | [] => rfl
  | a :: l => by rw [List.flatMap_cons, List.length_append, flat_len l, le32_len, List.length_cons]; omega
theorem encD_len (n : Nd) {k : Nat} (h : k ≤ 8) : (encD n k).length = 8 + 4 * k := by
  unfold encD
  rw [List.length_append, encH_len, flat_len, List.length_take]
  simp [Nd.ds]
  omega
theorem encT_len (n : Nd) : (encT n).length = 48 := by
  unfold encT
  rw [List.length_append, List.length_append, encD_len n (Nat.le_refl 8)]
  rfl
theorem encB_len (n : Nd) : (encB n).length = 60 := by
  unfold encB
  rw [List.length_append, encT_len]
  rfl
theorem encP_len (n : Nd) : (encP n).length = 64 := by
  unfold encP
  rw [sealP_len, encB_len]
theorem encD_succ (n : Nd) {k : Nat} (h : k < n.ds.length) : encD n (k + 1) = encD n k ++ le32 n.ds[k] := by
  unfold encD
  rw [List.take_succ_eq_append_getElem h, List.flatMap_append, List.append_assoc]
  simp
theorem idx8_0 (W : World) (d0 d1 d2 d3 d4 d5 d6 d7 : Int) : (Instr.index 63 (.agg #[.int .i64 d0, .int .i64 d1, .int .i64 d2, .int .i64 d3, .int .i64 d4, .int .i64 d5, .int .i64 d6, .int .i64 d7]) (.int .i64 0)).run Try.prog W = .ok (.int .i64 d0) W := by kernel_rfl
theorem idx8_1 (W : World) (d0 d1 d2 d3 d4 d5 d6 d7 : Int) : (Instr.index 63 (.agg #[.int .i64 d0, .int .i64 d1, .int .i64 d2, .int .i64 d3, .int .i64 d4, .int .i64 d5, .int .i64 d6, .int .i64 d7]) (.int .i64 1)).run Try.prog W = .ok (.int .i64 d1) W := by kernel_rfl
theorem idx8_2 (W : World) (d0 d1 d2 d3 d4 d5 d6 d7 : Int) : (Instr.index 63 (.agg #[.int .i64 d0, .int .i64 d1, .int .i64 d2, .int .i64 d3, .int .i64 d4, .int .i64 d5, .int .i64 d6, .int .i64 d7]) (.int .i64 2)).run Try.prog W = .ok (.int .i64 d2) W := by kernel_rfl
theorem idx8_3 (W : World) (d0 d1 d2 d3 d4 d5 d6 d7 : Int) : (Instr.index 63 (.agg #[.int .i64 d0, .int .i64 d1, .int .i64 d2, .int .i64 d3, .int .i64 d4, .int .i64 d5, .int .i64 d6, .int .i64 d7]) (.int .i64 3)).run Try.prog W = .ok (.int .i64 d3) W := by kernel_rfl
theorem idx8_4 (W : World) (d0 d1 d2 d3 d4 d5 d6 d7 : Int) : (Instr.index 63 (.agg #[.int .i64 d0, .int .i64 d1, .int .i64 d2, .int .i64 d3, .int .i64 d4, .int .i64 d5, .int .i64 d6, .int .i64 d7]) (.int .i64 4)).run Try.prog W = .ok (.int .i64 d4) W := by kernel_rfl
theorem idx8_5 (W : World) (d0 d1 d2 d3 d4 d5 d6 d7 : Int) : (Instr.index 63 (.agg #[.int .i64 d0, .int .i64 d1, .int .i64 d2, .int .i64 d3, .int .i64 d4, .int .i64 d5, .int .i64 d6, .int .i64 d7]) (.int .i64 5)).run Try.prog W = .ok (.int .i64 d5) W := by kernel_rfl
theorem idx8_6 (W : World) (d0 d1 d2 d3 d4 d5 d6 d7 : Int) : (Instr.index 63 (.agg #[.int .i64 d0, .int .i64 d1, .int .i64 d2, .int .i64 d3, .int .i64 d4, .int .i64 d5, .int .i64 d6, .int .i64 d7]) (.int .i64 6)).run Try.prog W = .ok (.int .i64 d6) W := by kernel_rfl
theorem idx8_7 (W : World) (d0 d1 d2 d3 d4 d5 d6 d7 : Int) : (Instr.index 63 (.agg #[.int .i64 d0, .int .i64 d1, .int .i64 d2, .int .i64 d3, .int .i64 d4, .int .i64 d5, .int .i64 d6, .int .i64 d7]) (.int .i64 7)).run Try.prog W = .ok (.int .i64 d7) W := by kernel_rfl
set_option maxRecDepth 10000 in
set_option maxHeartbeats 4000000 in
theorem Encode_calls (w : World) (n : Nd) : Calls Try.prog 42 #[.agg n.cells] w (ByOut w (encP n)) := by
  have hD0 : Hid (∀ k, k ≤ 8 → (encD n k).length = 8 + 4 * k) := fun k h => encD_len n h
  have hDs : Hid (∀ k (h : k < n.ds.length), encD n (k + 1) = encD n k ++ le32 n.ds[k]) := fun k h => encD_succ n h
  have hTl := Lib.hid (encT_len n)
  have hBl := Lib.hid (encB_len n)
  have hbx : Blk (w.alloc (.cells n.cells 65)) w.heap.size 65 n.cells := Blk.new _ _ _
  have hwb : Below w.heap.size w (w.alloc (.cells n.cells 65)) := (Below.refl _ _).alloc (Nat.le_refl _) _
  obtain ⟨wb, hwq⟩ : ∃ wb, wb = w.alloc (.cells n.cells 65) := ⟨_, rfl⟩
  rw [← hwq] at hbx hwb
  have hbx := Lib.hid hbx
  have HC : Hid (∀ W, Below wb.heap.size wb W → ∀ j, W.cell? ⟨w.heap.size, j, none⟩ = n.cells[j]?) := by
    intro W hW j
    exact (hbx.out.chg (Chg.of_below hW) (S := fun _ => False) id).cell j
  unfold Nd.cells at HC hwq
  unfold Nd.cells
  go_enter Try.func42, Try.ntmps42
  go_wp2_with fail
  rw [← hwq]
  clear hwq
  have hwb := Lib.hid hwb
  have hgn : Hid (w.heap.size < wb.heap.size) := hbx.out.lt
  generalize hgq0 : w.heap.size = gn at *
  have hgq := Lib.hid hgq0
  clear hgq0
  refine (NewWriter_calls wb).mono ?_
  rintro e w1 ⟨g, rfl, hg, hW, hB⟩
  have hv : ∀ j, (Value.slice none 0 0).ownBlock = some j → wb.heap.size ≤ j := fun j hj => by simp [Value.ownBlock] at hj
  have c0 := HC.out w1 hB 0
  go_wp2_with fail
  refine (U8_calls w1 g (.slice none 0 0) _ (n.kind) hW (by simp [le16, le32])).mono ?_
  intro e w2 kk
  obtain ⟨rfl, v2, hW, hB, hv⟩ := kk.own hB hg hv
  clear kk
  go_wp2_with fail
  refine (U8_calls w2 g v2 _ (0) hW (by simp [le16, le32])).mono ?_
  intro e w3 kk
  obtain ⟨rfl, v3, hW, hB, hv⟩ := kk.own hB hg hv
  clear kk
  have c1 := HC.out w3 hB 1
  go_wp2_with fail
  refine (U16_calls w3 g v3 _ (n.links) hW (by simp [le16, le32])).mono ?_
  intro e w4 kk
  obtain ⟨rfl, v4, hW, hB, hv⟩ := kk.own hB hg hv
  clear kk
  have c2 := HC.out w4 hB 2
  go_wp2_with fail
  refine (U32_calls w4 g v4 _ (n.size) hW (by simp [le16, le32])).mono ?_
  intro e w5 kk
  obtain ⟨rfl, v5, hW, hB, hv⟩ := kk.own hB hg hv
  clear kk
  have c3 := HC.out w5 hB 3; have c4 := HC.out w5 hB 4; have c5 := HC.out w5 hB 5; have c6 := HC.out w5 hB 6; have c7 := HC.out w5 hB 7; have c8 := HC.out w5 hB 8; have c9 := HC.out w5 hB 9; have c10 := HC.out w5 hB 10
  have hW : Wr w5 g v5 (encD n 0) := hW
  have hWh := Lib.hid hW
  have hBh := Lib.hid hB
  have hvh := Lib.hid hv
  clear hW hB hv
  go_wp2_with fail
  clear c3 c4 c5 c6 c7 c8 c9 c10
  go_loopw [24] (fun i wr => ∃ (k : Nat) (v : Value), k ≤ 8 ∧ i = .int .i64 k ∧ Hid (Wr wr g v (encD n k)) ∧ Hid (Below wb.heap.size wb wr) ∧ Hid (∀ j, v.ownBlock = some j → wb.heap.size ≤ j)) (fun i _ => 8 - (intOf i).toNat)
  case atStart => exact ⟨0, _, Nat.zero_le _, rfl, hWh, hBh, hvh⟩
  case round =>
    obtain ⟨k, v, hk, rfl, hW, hB, hv⟩ := hrel
    clear hWh hBh hvh
    by_cases hlt : k < 8
    · rcases (show k = 0 ∨ k = 1 ∨ k = 2 ∨ k = 3 ∨ k = 4 ∨ k = 5 ∨ k = 6 ∨ k = 7 by omega) with rfl | rfl | rfl | rfl | rfl | rfl | rfl | rfl
      · have hl := hD0.out 0 (by omega)
        have hix := idx8_0 wr n.d0 n.d1 n.d2 n.d3 n.d4 n.d5 n.d6 n.d7
        go_wp2_with fail
        refine (U32_calls wr g v _ n.d0 hW.out (by rw [hl]; omega)).mono ?_
        intro e w6 kk
        obtain ⟨rfl, v6, hW6, hB6, hv6⟩ := kk.own hB.out hg hv.out
        have hW6 : Hid (Wr w6 g v6 (encD n 1)) := by
          show Wr _ _ _ _
          rw [hDs.out 0 (by simp [Nd.ds])]
          exact hW6
        clear kk hl
        go_wp2
        go_roundw
        case rel => exact ⟨1, v6, by omega, rfl, hW6, hB6, hv6⟩
        case measure => simp [intOf]
      · have hl := hD0.out 1 (by omega)
        have hix := idx8_1 wr n.d0 n.d1 n.d2 n.d3 n.d4 n.d5 n.d6 n.d7
        go_wp2_with fail
        refine (U32_calls wr g v _ n.d1 hW.out (by rw [hl]; omega)).mono ?_
        intro e w6 kk
        obtain ⟨rfl, v6, hW6, hB6, hv6⟩ := kk.own hB.out hg hv.out
        have hW6 : Hid (Wr w6 g v6 (encD n 2)) := by
          show Wr _ _ _ _
          rw [hDs.out 1 (by simp [Nd.ds])]
          exact hW6
        clear kk hl
        go_wp2
        go_roundw
        case rel => exact ⟨2, v6, by omega, rfl, hW6, hB6, hv6⟩
        case measure => simp [intOf]
      · have hl := hD0.out 2 (by omega)
        have hix := idx8_2 wr n.d0 n.d1 n.d2 n.d3 n.d4 n.d5 n.d6 n.d7
        go_wp2_with fail
        refine (U32_calls wr g v _ n.d2 hW.out (by rw [hl]; omega)).mono ?_
        intro e w6 kk
        obtain ⟨rfl, v6, hW6, hB6, hv6⟩ := kk.own hB.out hg hv.out
        have hW6 : Hid (Wr w6 g v6 (encD n 3)) := by
          show Wr _ _ _ _
          rw [hDs.out 2 (by simp [Nd.ds])]
          exact hW6
        clear kk hl
        go_wp2
        go_roundw
        case rel => exact ⟨3, v6, by omega, rfl, hW6, hB6, hv6⟩
        case measure => simp [intOf]
      · have hl := hD0.out 3 (by omega)
        have hix := idx8_3 wr n.d0 n.d1 n.d2 n.d3 n.d4 n.d5 n.d6 n.d7
        go_wp2_with fail
        refine (U32_calls wr g v _ n.d3 hW.out (by rw [hl]; omega)).mono ?_
        intro e w6 kk
        obtain ⟨rfl, v6, hW6, hB6, hv6⟩ := kk.own hB.out hg hv.out
        have hW6 : Hid (Wr w6 g v6 (encD n 4)) := by
          show Wr _ _ _ _
          rw [hDs.out 3 (by simp [Nd.ds])]
          exact hW6
        clear kk hl
        go_wp2
        go_roundw
        case rel => exact ⟨4, v6, by omega, rfl, hW6, hB6, hv6⟩
        case measure => simp [intOf]
      · have hl := hD0.out 4 (by omega)
        have hix := idx8_4 wr n.d0 n.d1 n.d2 n.d3 n.d4 n.d5 n.d6 n.d7
        go_wp2_with fail
        refine (U32_calls wr g v _ n.d4 hW.out (by rw [hl]; omega)).mono ?_
        intro e w6 kk
        obtain ⟨rfl, v6, hW6, hB6, hv6⟩ := kk.own hB.out hg hv.out
        have hW6 : Hid (Wr w6 g v6 (encD n 5)) := by
          show Wr _ _ _ _
          rw [hDs.out 4 (by simp [Nd.ds])]
          exact hW6
        clear kk hl
        go_wp2
        go_roundw
        case rel => exact ⟨5, v6, by omega, rfl, hW6, hB6, hv6⟩
        case measure => simp [intOf]
      · have hl := hD0.out 5 (by omega)
        have hix := idx8_5 wr n.d0 n.d1 n.d2 n.d3 n.d4 n.d5 n.d6 n.d7
        go_wp2_with fail
        refine (U32_calls wr g v _ n.d5 hW.out (by rw [hl]; omega)).mono ?_
        intro e w6 kk
        obtain ⟨rfl, v6, hW6, hB6, hv6⟩ := kk.own hB.out hg hv.out
        have hW6 : Hid (Wr w6 g v6 (encD n 6)) := by
          show Wr _ _ _ _
          rw [hDs.out 5 (by simp [Nd.ds])]
          exact hW6
        clear kk hl
        go_wp2
        go_roundw
        case rel => exact ⟨6, v6, by omega, rfl, hW6, hB6, hv6⟩
        case measure => simp [intOf]
      · have hl := hD0.out 6 (by omega)
        have hix := idx8_6 wr n.d0 n.d1 n.d2 n.d3 n.d4 n.d5 n.d6 n.d7
        go_wp2_with fail
        refine (U32_calls wr g v _ n.d6 hW.out (by rw [hl]; omega)).mono ?_
        intro e w6 kk
        obtain ⟨rfl, v6, hW6, hB6, hv6⟩ := kk.own hB.out hg hv.out
        have hW6 : Hid (Wr w6 g v6 (encD n 7)) := by
          show Wr _ _ _ _
          rw [hDs.out 6 (by simp [Nd.ds])]
          exact hW6
        clear kk hl
        go_wp2
        go_roundw
        case rel => exact ⟨7, v6, by omega, rfl, hW6, hB6, hv6⟩
        case measure => simp [intOf]
      · have hl := hD0.out 7 (by omega)
        have hix := idx8_7 wr n.d0 n.d1 n.d2 n.d3 n.d4 n.d5 n.d6 n.d7
        go_wp2_with fail
        refine (U32_calls wr g v _ n.d7 hW.out (by rw [hl]; omega)).mono ?_
        intro e w6 kk
        obtain ⟨rfl, v6, hW6, hB6, hv6⟩ := kk.own hB.out hg hv.out
        have hW6 : Hid (Wr w6 g v6 (encD n 8)) := by
          show Wr _ _ _ _
          rw [hDs.out 7 (by simp [Nd.ds])]
          exact hW6
        clear kk hl
        go_wp2
        go_roundw
        case rel => exact ⟨8, v6, by omega, rfl, hW6, hB6, hv6⟩
        case measure => simp [intOf]
    · obtain rfl : k = 8 := by omega
      have hl8 := hD0.out 8 (by omega)
      have hW := hW.out
      have hB := hB.out
      have hv := hv.out
      have c11 := HC.out wr hB 11
      go_wp2_with fail
      refine (U32_calls wr g v _ n.one hW (by rw [hl8]; omega)).mono ?_
      intro e w7 kk
      obtain ⟨rfl, v7, hW7, hB7, hv7⟩ := kk.own hB hg hv
      clear kk hW hB hv
      have c12 := HC.out w7 hB7 12
      go_wp2_with fail
      refine (U32_calls w7 g v7 _ n.two hW7 (by rw [List.length_append, hl8]; simp [le32])).mono ?_
      intro e w8 kk
      obtain ⟨rfl, v8, hW8, hB8, hv8⟩ := kk.own hB7 hg hv7
      have hW8 : Wr w8 g v8 (encT n) := hW8
      clear kk hW7 hB7 hv7
      go_wp2_with fail
      refine (Done_calls w8 g v8 _ hW8 (by have := hTl.out; omega)).mono ?_
      rintro e w9 ⟨r9, rfl, ho9, hB9, hf9⟩
      obtain ⟨A9, c9, rfl⟩ := ho9.shape
      have hB9' := hB8.trans (hB9.mono hB8.size)
      have hW9 := hW8.below hB9
      rw [hTl.out]
      clear ho9 hf9
      go_wp2_with fail
      refine (Fixed_calls w9 g v8 _ _ [] 12 12 hW9 (Rd.nil _ _ _) (by have := hTl.out; omega) (by simp) (by decide)).mono ?_
      intro e w10 kk
      obtain ⟨rfl, v10, hW10, hB10, hv10⟩ := kk.own hB9' hg hv8
      have hW10 : Wr w10 g v10 (encB n) := hW10
      clear kk hW9
      go_wp2_with fail
      refine (Done_calls w10 g v10 _ hW10 (by have := hBl.out; omega)).mono ?_
      rintro e w11 ⟨r11, rfl, ho11, hB11, hf11⟩
      have hB11' := hB10.trans (hB11.mono hB10.size)
      go_wp2_with fail
      refine (Seal_calls w11 _ _ (Rd.of_own ho11) (by have := hBl.out; omega)).mono ?_
      rintro e w12 ⟨r12, rfl, ho12, hB12, hf12⟩
      have hB12' := hB11'.trans (hB12.mono hB11'.size)
      have hsz := hB11'.size
      go_wp2
      go_ret
      refine ⟨r12, rfl, ho12, by rw [hgq.out]; exact hwb.out.trans (hB12'.mono (Nat.le_of_lt hgn.out)), fun j hj => ?_⟩
      rw [hgq.out]
      have := hf12 j hj
      have := hgn.out
      omega
end Go.Proofs.Ytdlfaoggjimbpaa
