/- InodePlaces. -/
import Derived.Test.YtdlfaoggjimbpaaIkn
namespace Go.Proofs.Ytdlfaoggjimbpaa
open Go.RowKit
set_option maxRecDepth 10000 in
set_option maxHeartbeats 2000000 in
theorem InodePlaces_calls (w : World) {i size : Int} (ww0 : (Lit.int .i64 i).wf = true) (ww1 : (Lit.int .i64 size).wf = true) :
    Calls Try.prog 10 #[.int .i64 i, .int .i64 size] w fun e w' => e = .returned (.bool true) ∧ Below w.heap.size w w' := by
  obtain ⟨n1, n2⟩ := wf64 ww0
  obtain ⟨n3, n4⟩ := wf64 ww1
  have hW := fun W => Where_calls W i n1 n2
  have hR := fun W => RWhere_calls W i n1 n2
  have h1 := fun W => Blocks_calls W size n3 n4
  have h2 := fun W => RBlocks_calls W size n3 n4
  have h3 := fun W => Inner_calls W size n3 n4
  have h4 := fun W => RInner_calls W size n3 n4
  have h5 := fun W => All_calls W size n3 n4
  have h6 := fun W => RAll_calls W size n3 n4
  generalize allN size = z at *
  generalize innerP (blocksP size) = y at *
  generalize blocksP size = x at *
  generalize whereP i = o at *
  obtain ⟨l, a, b, er⟩ := o
  have hW := Lib.hid hW; have hR := Lib.hid hR; have h1 := Lib.hid h1; have h2 := Lib.hid h2; have h3 := Lib.hid h3; have h4 := Lib.hid h4; have h5 := Lib.hid h5; have h6 := Lib.hid h6
  have h7 := Lib.hid (fun W => Most_calls W)
  go_enter Try.func10, Try.ntmps10
  go_wp2_with fail
  refine (iknown_calls w).mono ?_
  rintro e w1 ⟨rfl, hB1⟩
  go_wp2_with fail
  refine (hW.out _).mono ?_
  rintro e w2 ⟨rfl, hB2⟩
  have hB2 := hB1.trans (hB2.mono hB1.size)
  simp only [placeV]
  go_wp2_with fail
  refine (hR.out _).mono ?_
  rintro e w3 ⟨rfl, hB3⟩
  have hB3' : Below w.heap.size w w3 := by
    have h8 : Below w.heap.size w (w2.alloc (.cells #[.int .i64 l, .int .i64 a, .int .i64 b] 71)) := hB2.alloc hB2.size _
    exact h8.trans (hB3.mono h8.size)
  have hb : Blk (w3.alloc (.cells #[.int .i64 l, .int .i64 a, .int .i64 b] 74)) w2.heap.size 71 #[.int .i64 l, .int .i64 a, .int .i64 b] := ((Blk.new w2 71 #[.int .i64 l, .int .i64 a, .int .i64 b]).chg (Chg.of_below hB3) (S := fun _ => False) id).alloc _
  have hBe := Lib.hid (hB3'.alloc hB3'.size (.cells #[.int .i64 l, .int .i64 a, .int .i64 b] 74))
  have c0 := hb.cell 0
  have c1 := hb.cell 1
  have c2 := hb.cell 2
  simp only [placeV]
  clear hb hB3 hB3' hB2 hB1 hW hR
  go_wp2_with fail
  refine (h1.out _).mono ?_
  rintro e w4 ⟨rfl, rfl⟩
  go_wp2_with fail
  refine (h2.out _).mono ?_
  rintro e w4 ⟨rfl, rfl⟩
  go_wp2_with fail
  refine (h3.out _).mono ?_
  rintro e w4 ⟨rfl, rfl⟩
  go_wp2_with fail
  refine (h4.out _).mono ?_
  rintro e w4 ⟨rfl, rfl⟩
  go_wp2_with fail
  refine (h5.out _).mono ?_
  rintro e w4 ⟨rfl, rfl⟩
  go_wp2_with fail
  refine (h6.out _).mono ?_
  rintro e w4 ⟨rfl, rfl⟩
  go_wp2_with fail
  refine (h7.out _).mono ?_
  rintro e w4 ⟨rfl, rfl⟩
  clear h1 h2 h3 h4 h5 h6 h7
  go_wp2
  go_ret
  exact ⟨rfl, hBe.out⟩
end Go.Proofs.Ytdlfaoggjimbpaa
