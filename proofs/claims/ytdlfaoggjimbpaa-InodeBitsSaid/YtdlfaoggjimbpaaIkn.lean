/- The law's own known case. -/
import Derived.Test.YtdlfaoggjimbpaaDec
namespace Go.Proofs.Ytdlfaoggjimbpaa
open Go.RowKit
def nd0 : Nd := ⟨1, 2, 3, 0, 0, 0, 0, 0, 0, 0, 0, 0, 9⟩
theorem dec0 : decP (encP nd0) = (nd0, 0) := by kernel_rfl
set_option maxRecDepth 10000 in
set_option maxHeartbeats 2000000 in
theorem iknown_calls (w : World) : Calls Try.prog 41 #[] w fun e w' => e = .returned (.bool true) ∧ Below w.heap.size w w' := by
  have HB := fun W => Lib.hid (Blocks_calls W 513 (by decide) (by decide))
  have HI := fun W => Lib.hid (Inner_calls W 4608 (by decide) (by decide))
  rw [show blocksP 513 = 2 by decide] at HB
  rw [show innerP (blocksP 4608) = 1 by decide] at HI
  go_enter Try.func41, Try.ntmps41
  go_wp2_with fail
  refine (Encode_calls w nd0).mono ?_
  rintro e w1 ⟨r1, rfl, ho1, hB1, _⟩
  have hD := Decode_calls w1 r1 (encP nd0) (Rd.of_own ho1) (by rw [encP_len]; omega)
  rw [dec0] at hD
  have hD := Lib.hid hD
  go_wp2_with fail
  refine hD.out.mono ?_
  rintro e w2 ⟨rfl, hB2⟩
  have hB2 := hB1.trans (hB2.mono hB1.size)
  simp only [nd0, Nd.cells]
  have hW := fun W => Where_calls W 436 (by decide) (by decide)
  rw [show whereP 436 = (2, 2, 44, 0) by decide] at hW
  have hW := Lib.hid hW
  have hB2 := Lib.hid hB2
  clear hD ho1 hB1
  go_wp2_with fail
  refine (hW.out _).mono ?_
  rintro e w3 ⟨rfl, hB3⟩
  have hb : Blk (w3.alloc (.cells #[.int .i64 2, .int .i64 2, .int .i64 44] 71)) w2.heap.size 65 nd0.cells := ((Blk.new w2 65 nd0.cells).chg (Chg.of_below hB3) (S := fun _ => False) id).alloc _
  have hBe : Below w.heap.size w (w3.alloc (.cells #[.int .i64 2, .int .i64 2, .int .i64 44] 71)) := by
    have h4 : Below w.heap.size w (w2.alloc (.cells nd0.cells 65)) := hB2.out.alloc hB2.out.size _
    have h5 : Below w.heap.size w w3 := h4.trans (hB3.mono h4.size)
    exact h5.alloc h5.size _
  have c1 : World.cell? _ ⟨w2.heap.size, 1, none⟩ = some (.int .i64 2) := hb.cell 1
  have c12 : World.cell? _ ⟨w2.heap.size, 12, none⟩ = some (.int .i64 9) := hb.cell 12
  simp only [placeV]
  have hBe := Lib.hid hBe
  clear hb hB3 hW
  go_wp2_with fail
  refine (HB _).out.mono ?_
  rintro e w4 ⟨rfl, rfl⟩
  go_wp2_with fail
  refine (HI _).out.mono ?_
  rintro e w4 ⟨rfl, rfl⟩
  clear HB HI
  go_wp2
  go_ret
  exact ⟨rfl, hBe.out⟩
end Go.Proofs.Ytdlfaoggjimbpaa
