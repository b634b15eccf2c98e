/- A disk is made. -/
import Derived.Test.YtefbmbfhhhjgkaaBf
namespace Go.Proofs.Ytefbmbfhhhjgkaa
open Go.RowKit
variable {F : Nat → Prop}
def lvK (ga N k : Nat) : List Value := (List.range N).map fun j => if j < k then .slice (some ⟨ga, j * 512, none⟩) 512 512 else .slice none 0 0
theorem lvK_len (ga N k : Nat) : (lvK ga N k).length = N := by simp [lvK]
theorem lvK_zero (ga N : Nat) : lvK ga N 0 = List.replicate N (.slice none 0 0) := by
  unfold lvK
  rw [List.map_congr_left (g := fun _ => (Value.slice none 0 0)) (fun i _ => if_neg (Nat.not_lt_zero i)), List.map_const', List.length_range]
theorem lvK_set (ga N k : Nat) : (lvK ga N k).set k (.slice (some ⟨ga, k * 512, none⟩) 512 512) = lvK ga N (k + 1) := by
  apply List.ext_getElem?
  intro i
  by_cases hi : i < N
  · rw [List.getElem?_set]
    by_cases hk : k = i
    · subst hk
      simp [lvK_len, hi, lvK]
    · rw [if_neg hk]
      simp only [lvK, List.getElem?_map, List.getElem?_range hi, Option.map_some]
      congr 1
      by_cases h : i < k
      · rw [if_pos h, if_pos (by omega)]
      · rw [if_neg h, if_neg (by omega)]
  · rw [List.getElem?_eq_none (by rw [List.length_set, lvK_len]; omega), List.getElem?_eq_none (by rw [lvK_len]; omega)]
structure NewR (w wr : World) (g N k : Nat) : Prop where
  blk : Blk wr (g + 2) 81 #[.slice (some ⟨g, 0, none⟩) N N, .map (some (g + 1)), .bool false, .int .i64 0, .int .i64 0, .slice none 0 0]
  row : wr.ownsRow 0 63 1 (.slice (some ⟨g, 0, none⟩) N N) N (lvK (g + 3) N k)
  all : Blk wr (g + 3) 5 (List.replicate (N * 512) (Value.int .u8 0)).toArray
  map : IM Try.prog 3 wr (g + 1) N (fun _ => none)
  below : Below w.heap.size w wr
def zblk : List UInt8 := List.replicate 512 0
theorem zblk_len : zblk.length = 512 := List.length_replicate
theorem zblk_bvs : bvs zblk = List.replicate 512 (Value.int .u8 0) := List.map_replicate
def newD (N : Nat) : Dk := ⟨List.replicate N zblk, List.replicate N [], false, 0, 0, []⟩
theorem newD_len (N : Nat) : (newD N).l.length = N := List.length_replicate
theorem NewR.dsk {w wr : World} {g N : Nat} (h : NewR w wr g N N) (hF : F (g + 3)) : Dsk F wr (g + 2) g N (g + 1) (.slice none 0 0) (lvK (g + 3) N N) (fun _ => none) (newD N) where
  blk := by rw [newD_len]; exact h.blk
  row := by rw [newD_len]; exact h.row
  wtl := by rw [newD_len]; exact List.length_replicate
  dat := fun i u b h1 h2 => by
    have hi : i < N := by
      have := (List.getElem?_eq_some_iff.1 h1).1
      rwa [lvK_len] at this
    simp only [lvK, List.getElem?_map, List.getElem?_range hi, Option.map_some, if_pos hi, Option.some.injEq] at h1
    subst h1
    have hb : b = zblk := List.eq_of_mem_replicate (List.mem_of_getElem? h2)
    subst hb
    rw [zblk_bvs]
    refine ⟨⟨_, _, by rw [List.length_replicate], by rw [List.length_replicate]; exact Nat.le_refl _, fun _ => ⟨_, rfl, fun j u hu => ?_⟩⟩, fun _ => ⟨g + 3, _, rfl, h.all, hF⟩⟩
    have hj : j < 512 := by
      have := (List.getElem?_eq_some_iff.1 hu).1
      rwa [List.length_replicate] at this
    have hu2 : u = Value.int .u8 0 := List.eq_of_mem_replicate (List.mem_of_getElem? hu)
    subst hu2
    rw [addr_add_at, h.all.cell]
    have hlt : i * 512 + j < N * 512 := by omega
    rw [List.getElem?_toArray, List.getElem?_replicate, if_pos hlt]
  len := fun b hb => by rw [List.eq_of_mem_replicate hb]; exact zblk_len
  map := by rw [newD_len]; exact h.map
  ver := fun k vs hk => .inl ⟨List.eq_of_mem_replicate (List.mem_of_getElem? hk), rfl⟩
  vlen := fun vs hv b hb => by rw [List.eq_of_mem_replicate hv] at hb; cases hb
  apart := fun j k v v' b h1 => by cases h1
  pick := RdT.nil _ _
def newPk (n : Int) : Int := if n < 1 ∨ 16384 < n then 1 else 0
/-- A new disk, or the error. -/
def NewOutF (F : Nat → Prop) (w : World) (n : Int) (e : Ending) (w' : World) : Prop :=
  if n < 1 ∨ 16384 < n then e = .returned (.tuple #[.pointer none, .int .i64 1]) ∧ w = w'
  else ∃ g S, e = .returned (.tuple #[.pointer (some ⟨g, 0, none⟩), .int .i64 0]) ∧ DKF F w' g (newD n.toNat) S ∧ Below w.heap.size w w' ∧ ∀ k, S k → w.heap.size ≤ k
set_option maxRecDepth 10000 in
set_option maxHeartbeats 2000000 in
theorem New_callsF (w : World) (n : Int) (hF : ∀ k, w.heap.size ≤ k → F k) : Calls Try.prog 27 #[.int .i64 n] w (NewOutF F w n) := by
  have hFF := Lib.hid hF
  clear hF
  by_cases h1 : n < 1
  · have hO : ∀ e w', e = .returned (.tuple #[.pointer none, .int .i64 1]) ∧ w = w' → NewOutF F w n e w' := fun e w' h => by unfold NewOutF; rw [if_pos (.inl h1)]; exact h
    have hO1 := Lib.hid hO
    clear hO
    go_enter Try.func27, Try.ntmps27
    go_wp2
    go_ret2
    exact hO1.out _ _ ⟨rfl, rfl⟩
  · by_cases h2 : 16384 < n
    · have hO : ∀ e w', e = .returned (.tuple #[.pointer none, .int .i64 1]) ∧ w = w' → NewOutF F w n e w' := fun e w' h => by unfold NewOutF; rw [if_pos (.inr h2)]; exact h
      have hO1 := Lib.hid hO
      clear hO
      go_enter Try.func27, Try.ntmps27
      go_wp2
      go_ret2
      exact hO1.out _ _ ⟨rfl, rfl⟩
    · obtain ⟨N, rfl⟩ : ∃ N : Nat, n = (N : Int) := ⟨n.toNat, by omega⟩
      have hO : Hid (∀ e w', (∃ g S, e = .returned (.tuple #[.pointer (some ⟨g, 0, none⟩), .int .i64 0]) ∧ DKF F w' g (newD N) S ∧ Below w.heap.size w w' ∧ ∀ k, S k → w.heap.size ≤ k) → NewOutF F w N e w') := fun e w' h => by
        unfold NewOutF
        rw [if_neg (by omega)]
        exact h
      obtain ⟨i0, hi, hz0, hz1, hz2⟩ := info_parts Try.info_u8
      obtain ⟨i1, hi1, hy0, hy1, hy2⟩ := info_parts Try.info_sl8
      have hmk1 := run_mkr (P := Try.prog) 78 63 i1 (.slice none 0 0) Try.underlying78 hi1 hy0 rfl hy1 N (by rw [hy2]; omega) (by omega)
      have hmk2 := run_mkr (P := Try.prog) 63 5 i0 (.int .u8 0) Try.underlying63 hi hz0 rfl hz1 (N * 512) (by rw [hz2]; omega) (by omega)
      rw [Int.natCast_mul, show ((512 : Nat) : Int) = 512 from rfl] at hmk2
      have hn1 : 1 ≤ N := by omega
      have hn2 : N ≤ 16384 := by omega
      have hmm := @run_makeMap Try.prog
      have hi0 := hi
      have hs0 := hz1
      clear h1 h2 hi hz0 hz1 hz2 hi1 hy0 hy1 hy2
      go_enter Try.func27, Try.ntmps27
      go_wp2
      obtain ⟨w4, hw4⟩ : ∃ w4, w4 = (((w.alloc (Obj.cells (Array.replicate N (Value.slice none 0 0)) 63)).alloc (Obj.map #[] 0)).alloc (Obj.cells #[Value.slice (some ⟨w.heap.size, 0, none⟩) N N, Value.map (some (w.heap.size + 1)), Value.bool false, Value.int IntKind.i64 0, Value.int IntKind.i64 0, Value.slice none 0 0] 81)).alloc (Obj.cells (Array.replicate (N * 512) (Value.int .u8 0)) 5) := ⟨_, rfl⟩
      rw [← hw4]
      have hR : NewR w w4 w.heap.size N 0 := by
        rw [hw4]
        have ho := own_mkr w 63 (List.replicate N (.slice none 0 0)) N List.length_replicate (by omega)
        rw [List.toArray_replicate] at ho
        have hB : Below w.heap.size w (w.alloc (Obj.cells (Array.replicate N (Value.slice none 0 0)) 63)) := (Below.refl _ _).alloc (Nat.le_refl _) _
        have hz1 : (w.alloc (Obj.cells (Array.replicate N (Value.slice none 0 0)) 63)).heap.size = w.heap.size + 1 := by simp
        generalize w.alloc (Obj.cells (Array.replicate N (Value.slice none 0 0)) 63) = wa at *
        have hm := IM.made Try.prog 3 wa N
        have ho2 := own_keep (w' := wa.alloc (Obj.map #[] 0)) ho (Below.heap_alloc _ _ _ (by omega))
        have hB2 := hB.alloc (Nat.le_of_lt (by omega)) (Obj.map #[] 0)
        have hz2 : (wa.alloc (Obj.map #[] 0)).heap.size = w.heap.size + 2 := by simp [hz1]
        rw [hz1] at hm
        generalize wa.alloc (Obj.map #[] 0) = wb at *
        have hb := Blk.new wb 81 #[Value.slice (some ⟨w.heap.size, 0, none⟩) N N, Value.map (some (w.heap.size + 1)), Value.bool false, Value.int IntKind.i64 0, Value.int IntKind.i64 0, Value.slice none 0 0]
        rw [hz2] at hb
        have hm2 := hm.alloc (.cells #[Value.slice (some ⟨w.heap.size, 0, none⟩) N N, Value.map (some (w.heap.size + 1)), Value.bool false, Value.int IntKind.i64 0, Value.int IntKind.i64 0, Value.slice none 0 0] 81)
        have ho3 := own_keep (w' := wb.alloc (.cells #[Value.slice (some ⟨w.heap.size, 0, none⟩) N N, Value.map (some (w.heap.size + 1)), Value.bool false, Value.int IntKind.i64 0, Value.int IntKind.i64 0, Value.slice none 0 0] 81)) ho2 (Below.heap_alloc _ _ _ (by omega))
        have hB3 := hB2.alloc (Nat.le_of_lt (by omega)) (.cells #[Value.slice (some ⟨w.heap.size, 0, none⟩) N N, Value.map (some (w.heap.size + 1)), Value.bool false, Value.int IntKind.i64 0, Value.int IntKind.i64 0, Value.slice none 0 0] 81)
        have hz3 : (wb.alloc (.cells #[Value.slice (some ⟨w.heap.size, 0, none⟩) N N, Value.map (some (w.heap.size + 1)), Value.bool false, Value.int IntKind.i64 0, Value.int IntKind.i64 0, Value.slice none 0 0] 81)).heap.size = w.heap.size + 3 := by simp [hz2]
        generalize wb.alloc (.cells #[Value.slice (some ⟨w.heap.size, 0, none⟩) N N, Value.map (some (w.heap.size + 1)), Value.bool false, Value.int IntKind.i64 0, Value.int IntKind.i64 0, Value.slice none 0 0] 81) = wc at *
        have ha := Blk.new wc 5 (Array.replicate (N * 512) (Value.int .u8 0))
        rw [hz3] at ha
        refine ⟨hb.alloc _, ?_, ?_, hm2.alloc _, hB3.alloc (Nat.le_of_lt (by omega)) _⟩
        · rw [lvK_zero]
          exact own_keep ho3 (Below.heap_alloc _ _ _ (by omega))
        · rw [List.toArray_replicate]
          exact ha
      obtain ⟨g, hg⟩ : ∃ g, Hid (g = w.heap.size) := ⟨_, Lib.hid rfl⟩
      rw [← hg.out] at hR ⊢
      have hR1 := Lib.hid hR
      clear hw4 hmk1 hmk2 hmm hR
      go_loopw [26, 6] (fun i _ wr => ∃ k : Nat, k ≤ N ∧ i = .int .i64 k ∧ Hid (NewR w wr g N k)) (fun i _ _ => N - (RowKit.intOf i).toNat)
      case atStart => exact ⟨0, Nat.zero_le _, rfl, hR1⟩
      case round =>
        obtain ⟨k, hk, rfl, hR⟩ := hrel
        clear hR1
        by_cases hlt : k < N
        · have c0 : wr.cell? ⟨g + 2, 0, none⟩ = some (.slice (some ⟨g, 0, none⟩) N N) := hR.out.blk.cell 0
          have hfz : wr.frozen? ⟨g, k, none⟩ = false := World.ownsRow.frozenAt hR.out.row _
          obtain ⟨uv, hcg⟩ : ∃ uv, wr.cell? ⟨g, k, none⟩ = some uv := ⟨_, own_cell hR.out.row (List.getElem?_eq_getElem (by rw [lvK_len]; exact hlt))⟩
          have hRn : Hid (NewR w (wr.drew.setCell ⟨g, k, none⟩ (.slice (some ⟨g + 3, k * 512, none⟩) 512 512)) g N (k + 1)) := by
            have hR := hR.out
            refine ⟨hR.blk.drew.far (show g + 2 ≠ g by omega) _, ?_, hR.all.drew.far (show g + 3 ≠ g by omega) _, (hR.map.keep (w' := wr.drew) rfl).far (show g + 1 ≠ g by omega) _, hR.below.drew.setCell (p := ⟨g, k, none⟩) (Nat.le_of_eq hg.out.symm) _⟩
            rw [← lvK_set]
            exact (World.ownsRow.stored (w := wr.drew) hR.row k (.slice (some ⟨g + 3, k * 512, none⟩) 512 512)).1
          have e1 : IntKind.i64.wrap ((k : Int) * 512) = (k : Int) * 512 := by rw [IntKind.wrap_i64]; omega
          have e2 : IntKind.i64.wrap ((k : Int) + 1) = (k : Int) + 1 := by rw [IntKind.wrap_i64]; omega
          have e3 : IntKind.i64.wrap (((k : Int) + 1) * 512) = ((k : Int) + 1) * 512 := by rw [IntKind.wrap_i64]; omega
          have e4 : ((k : Int) * 512).toNat = k * 512 := by omega
          have e5 : (((k : Int) + 1) * 512).toNat = (k + 1) * 512 := by omega
          have b1 : (0 : Int) ≤ (k : Int) * 512 := by omega
          have b2 : (k : Int) * 512 ≤ ((k : Int) + 1) * 512 := by omega
          have b3 : ((k : Int) + 1) * 512 ≤ ((N * 512 : Nat) : Int) := by omega
          have b4 : (k : Int) < (N : Int) := by omega
          have hsl : ∀ W : World, Sem.run Try.prog (Instr.slice 63 (.slice (some ⟨g + 1 + 1 + 1, 0, none⟩) (N * 512) (N * 512)) (some (.int .i64 ((k : Int) * 512))) (some (.int .i64 (((k : Int) + 1) * 512))) (some (.int .i64 (((k : Int) + 1) * 512)))) W = .ok (.slice (some ⟨g + 3, k * 512, none⟩) 512 512) W := by
            intro W
            have := run_slice3 (P := Try.prog) W 63 5 i0 Try.underlying63 hi0 hs0 (some ⟨g + 3, 0, none⟩) (N * 512) (N * 512) (k * 512) ((k + 1) * 512) ((k + 1) * 512) (x := (k : Int) * 512) (y := ((k : Int) + 1) * 512) (z := ((k : Int) + 1) * 512) (by omega) (by omega) (by omega) (by omega) (by omega) (by omega) (by omega)
            rw [show (k + 1) * 512 - k * 512 = 512 by omega, Option.map_some, addr_add_at, Nat.zero_add] at this
            exact this
          go_wp2_with fail
          go_still_tail 16, (by kernel_rfl)
          change wpList _ _ _ _ _ wr.drew
          generalize hwd : wr.drew = wd at *
          have hfz2 : wd.frozen? ⟨g, k, none⟩ = false := by rw [← hwd]; exact hfz
          have hcg2 : wd.cell? ⟨g, k, none⟩ = some uv := by rw [← hwd]; exact hcg
          clear hwd c0 hfz hcg hsl e1 e2 e3 e4 e5 hR
          go_wp2
          go_roundw
          case rel => exact ⟨k + 1, by omega, by go_num, hRn⟩
          case measure => simp [RowKit.intOf]; omega
        · obtain rfl : k = N := by omega
          have hD := hR.out.dsk (F := F) (hFF.out _ (by have := hg.out; omega))
          have hB := hR.out.below
          have hres := Lib.hid (hO.out (.returned (.tuple #[.pointer (some ⟨g + 2, 0, none⟩), .int .i64 0])) wr ⟨g + 2, _, rfl, ⟨_, _, _, _, _, _, hD, fun _ => Iff.rfl⟩, hB, fun j hj => by
            have := hg.out
            rcases hj with h | h | h | ⟨_, _, h, _⟩
            · omega
            · omega
            · omega
            · cases h⟩)
          clear hD hB hO hR
          go_wp2
          go_ret2
          exact hres.out
end Go.Proofs.Ytefbmbfhhhjgkaa
