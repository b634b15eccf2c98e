/- The walk of DirBytes. -/
import Derived.Test.YtoloogpglnonaaaDj
import Derived.Test.YtoloogpglnonaaaDk
namespace Go.Proofs.Ytoloogpglnonaaa
open Go.RowKit
theorem OwnR.rd {w : World} {v : Value} {es : List Ent} (h : OwnR w v es) : RdE w v es := by
  have h0 := h
  rcases h.2 with ⟨rfl, hn⟩ | ⟨g, cap, cur, rfl, _⟩
  · have : es = [] := List.eq_nil_of_length_eq_zero hn
    subst this
    exact ⟨none, 0, rfl, fun hne => absurd rfl hne⟩
  · refine ⟨some ⟨g, 0, none⟩, cap, by rw [List.length_map], fun _ => ⟨_, rfl, fun i r j u hi hj => ?_⟩⟩
    rw [List.getElem?_map] at hi
    rcases Nat.lt_or_ge i es.length with hlt | hge
    · rw [List.getElem?_eq_getElem hlt] at hi
      injection hi with hi
      subst hi
      have hj2 : j < 2 := (List.getElem?_eq_some_iff.1 hj).1
      exact World.ownsRow.cells h0 rfl _ u (by rw [cellsE_get es i j hlt hj2]; exact hj)
    · rw [List.getElem?_eq_none hge] at hi; cases hi
theorem readD_len (bs : List UInt8) : (readD bs).1.length ≤ bs.length := by
  unfold readD
  split
  · exact Nat.zero_le _
  · split
    · exact Nat.zero_le _
    · show (decs bs (bs.length / 64)).length ≤ _
      rw [decs_len]
      omega
set_option maxRecDepth 100000 in
set_option maxHeartbeats 8000000 in
theorem DirBytes_calls (w : World) {n : Ent} (nn0 : n.name.length ≤ 9223372036854775807 ∧ (Lit.int .i64 n.ino).wf = true) {x1 : Value} {bs : List UInt8} (xx1 : Rd w x1 (bvs bs)) (ll1 : bs.length ≤ 9223372036854775807) {x2 : Value} {al : List UInt8} (xx2 : Rd w x2 (bvs al)) (ll2 : al.length ≤ 9223372036854775807) :
    Calls Try.prog 5 #[.agg n.cells, x1, x2] w fun e w' => e = .returned (.bool true) ∧ Below w.heap.size w w' := by
  obtain ⟨hi1, hi2⟩ := wf64 nn0.2
  have hnl := nn0.1
  obtain ⟨A1, c1, rfl⟩ := xx1.shape8
  obtain ⟨A2, c2, rfl⟩ := xx2.shape8
  have hx1 := Lib.hid xx1
  have hx2 := Lib.hid xx2
  clear xx1 xx2 nn0
  have hbk : Blk (w.alloc (.cells n.cells 43)) w.heap.size 43 n.cells := Blk.new _ _ _
  have hb0 : Below w.heap.size w (w.alloc (.cells n.cells 43)) := (Below.refl _ _).alloc (Nat.le_refl _) _
  obtain ⟨w0, hw0⟩ : ∃ w0, w0 = w.alloc (.cells n.cells 43) := ⟨_, rfl⟩
  rw [← hw0] at hbk hb0
  have hbl := hbk.lt
  have hc0 : w0.cell? ⟨w.heap.size, 0, none⟩ = some (.string ⟨n.name.toArray⟩) := hbk.cell 0
  have hbk := Lib.hid hbk
  unfold Ent.cells at hw0 ⊢
  by_cases g1 : 300 < n.name.length
  · clear hbk
    go_enter Try.func5, Try.ntmps5
    go_wp2_with fail
    rw [← hw0]
    clear hw0
    refine (dknown_calls w0).mono ?_
    rintro e w1 ⟨rfl, hB1⟩
    have c0 : w1.cell? ⟨w.heap.size, 0, none⟩ = some (.string ⟨n.name.toArray⟩) := (hB1.cell (p := ⟨w.heap.size, 0, none⟩) hbl).trans hc0
    go_wp2
    go_ret
    exact ⟨rfl, hb0.trans (hB1.mono hb0.size)⟩
  by_cases g2 : 200 < bs.length
  · clear hbk
    go_enter Try.func5, Try.ntmps5
    go_wp2_with fail
    rw [← hw0]
    clear hw0
    refine (dknown_calls w0).mono ?_
    rintro e w1 ⟨rfl, hB1⟩
    have c0 : w1.cell? ⟨w.heap.size, 0, none⟩ = some (.string ⟨n.name.toArray⟩) := (hB1.cell (p := ⟨w.heap.size, 0, none⟩) hbl).trans hc0
    go_wp2
    go_ret
    exact ⟨rfl, hb0.trans (hB1.mono hb0.size)⟩
  by_cases g3 : 4096 < al.length
  · clear hbk
    go_enter Try.func5, Try.ntmps5
    go_wp2_with fail
    rw [← hw0]
    clear hw0
    refine (dknown_calls w0).mono ?_
    rintro e w1 ⟨rfl, hB1⟩
    have c0 : w1.cell? ⟨w.heap.size, 0, none⟩ = some (.string ⟨n.name.toArray⟩) := (hB1.cell (p := ⟨w.heap.size, 0, none⟩) hbl).trans hc0
    go_wp2
    go_ret
    exact ⟨rfl, hb0.trans (hB1.mono hb0.size)⟩
  have hn300 : n.name.length ≤ 300 := by omega
  have hb200 : bs.length ≤ 200 := by omega
  have ha4 : al.length ≤ 4096 := by omega
  clear g1 g2 g3
  go_enter Try.func5, Try.ntmps5
  go_wp2_with fail
  rw [← hw0]
  clear hw0
  refine (dknown_calls w0).mono ?_
  rintro e w1 ⟨rfl, hB1⟩
  have c0 : w1.cell? ⟨w.heap.size, 0, none⟩ = some (.string ⟨n.name.toArray⟩) := (hB1.cell (p := ⟨w.heap.size, 0, none⟩) hbl).trans hc0
  have hbk1 := Lib.hid (hbk.out.chg (Chg.of_below hB1) (S := fun _ => False) id)
  have hbB := Lib.hid (hb0.trans (hB1.mono hb0.size))
  have hC : Hid (∀ W, Below w1.heap.size w1 W → W.cell? ⟨w.heap.size, 0, none⟩ = some (.string ⟨n.name.toArray⟩)) := fun W hW => (hW.cell (p := ⟨w.heap.size, 0, none⟩) hbk1.out.lt).trans c0
  have hld : Hid (∀ W, Below w1.heap.size w1 W → (Instr.loadAt 43 (.pointer (some ⟨w.heap.size, 0, none⟩))).run Try.prog W = .ok (.agg n.cells) W) := fun W hW =>
    run_loadAt_cells (P := Try.prog) W ⟨w.heap.size, 0, none⟩ 43 [.string ⟨n.name.toArray⟩, .int .i64 n.ino] _ (fun j u hu => by
      rw [addr_add_at, Nat.zero_add]
      have hb := (hbk1.out.chg (Chg.of_below hW) (S := fun _ => False) id).cell j
      rw [hb]
      simpa [Ent.cells] using hu) Try.underlying43 rfl (by kernel_rfl)
  have hNm := Lib.hid (Name_calls w1.drew n.name hnl)
  have hRm := Lib.hid (RName_calls w1.drew n.name hnl)
  have bd : Below w1.heap.size w1 w1.drew := (Below.refl _ _).drew
  clear hbk hB1 hb0 hbl hc0
  go_wp2_with fail
  refine wp_mixs (fun W => Below w1.heap.size w1 W) [2, 5, 9, 12] (by kernel_rfl) (by kernel_rfl) (by kernel_rfl) (by decide) bd ?_
  iterate 2 ((first | refine mixsq rfl rfl 0 (by decide +kernel) ?_ (fun w' hw' => Or.inl ?_) (fun K hK => ?_) | refine mixsq rfl rfl 1 (by decide +kernel) ?_ (fun w' hw' => Or.inl ?_) (fun K hK => ?_) | refine mixsq rfl rfl 2 (by decide +kernel) ?_ (fun w' hw' => Or.inl ?_) (fun K hK => ?_) | refine mixsq rfl rfl 3 (by decide +kernel) ?_ (fun w' hw' => Or.inl ?_) (fun K hK => ?_) | refine mixsq rfl rfl 4 (by decide +kernel) ?_ (fun w' hw' => Or.inl ?_) (fun K hK => ?_) | refine mixsq rfl rfl 5 (by decide +kernel) ?_ (fun w' hw' => Or.inl ?_) (fun K hK => ?_) | refine mixsq rfl rfl 6 (by decide +kernel) ?_ (fun w' hw' => Or.inl ?_) (fun K hK => ?_)); rotate_left; (focus (have hb : Below w1.heap.size w1 w' := hw'; have k1 := hC.out w' hb; go_simp; rfl)); go_simp; refine hK _ ?_; clear hK K)
  refine mixsl rfl rfl (fun K hK => ?_)
  go_simp
  refine hNm.out.mono ?_
  rintro e w2 ⟨rfl, rfl⟩
  refine hK (fun W => Below w1.heap.size w1 W) _ _ (fun _ => ⟨bd, fun _ => bd⟩) ?_
  clear hK K
  iterate 2 ((first | refine mixsq rfl rfl 0 (by decide +kernel) ?_ (fun w' hw' => Or.inl ?_) (fun K hK => ?_) | refine mixsq rfl rfl 1 (by decide +kernel) ?_ (fun w' hw' => Or.inl ?_) (fun K hK => ?_) | refine mixsq rfl rfl 2 (by decide +kernel) ?_ (fun w' hw' => Or.inl ?_) (fun K hK => ?_) | refine mixsq rfl rfl 3 (by decide +kernel) ?_ (fun w' hw' => Or.inl ?_) (fun K hK => ?_) | refine mixsq rfl rfl 4 (by decide +kernel) ?_ (fun w' hw' => Or.inl ?_) (fun K hK => ?_) | refine mixsq rfl rfl 5 (by decide +kernel) ?_ (fun w' hw' => Or.inl ?_) (fun K hK => ?_) | refine mixsq rfl rfl 6 (by decide +kernel) ?_ (fun w' hw' => Or.inl ?_) (fun K hK => ?_)); rotate_left; (focus (have hb : Below w1.heap.size w1 w' := hw'; have k1 := hC.out w' hb; go_simp; rfl)); go_simp; refine hK _ ?_; clear hK K)
  refine mixsl rfl rfl (fun K hK => ?_)
  go_simp
  refine hRm.out.mono ?_
  rintro e w2 ⟨rfl, rfl⟩
  refine hK (fun W => Below w1.heap.size w1 W) _ _ (fun _ => ⟨bd, ext_all (fun _ => bd) bd⟩) ?_
  clear hK K
  iterate 2 ((first | refine mixsq rfl rfl 0 (by decide +kernel) ?_ (fun w' hw' => Or.inl ?_) (fun K hK => ?_) | refine mixsq rfl rfl 1 (by decide +kernel) ?_ (fun w' hw' => Or.inl ?_) (fun K hK => ?_) | refine mixsq rfl rfl 2 (by decide +kernel) ?_ (fun w' hw' => Or.inl ?_) (fun K hK => ?_) | refine mixsq rfl rfl 3 (by decide +kernel) ?_ (fun w' hw' => Or.inl ?_) (fun K hK => ?_) | refine mixsq rfl rfl 4 (by decide +kernel) ?_ (fun w' hw' => Or.inl ?_) (fun K hK => ?_) | refine mixsq rfl rfl 5 (by decide +kernel) ?_ (fun w' hw' => Or.inl ?_) (fun K hK => ?_) | refine mixsq rfl rfl 6 (by decide +kernel) ?_ (fun w' hw' => Or.inl ?_) (fun K hK => ?_)); rotate_left; (focus (go_simp; rfl)); go_simp; refine hK _ ?_; clear hK K)
  (first | (refine mixsq_yes rfl (by first | rfl | kernel_rfl) 0 (by decide +kernel) (.agg n.cells) (fun w' hw' => Or.inl (exec_load rfl rfl (hld.out w' hw'))) (fun K hK => ?_)) | (refine mixsq_yes rfl (by first | rfl | kernel_rfl) 1 (by decide +kernel) (.agg n.cells) (fun w' hw' => Or.inl (exec_load rfl rfl (hld.out w' hw'))) (fun K hK => ?_)) | (refine mixsq_yes rfl (by first | rfl | kernel_rfl) 2 (by decide +kernel) (.agg n.cells) (fun w' hw' => Or.inl (exec_load rfl rfl (hld.out w' hw'))) (fun K hK => ?_)) | (refine mixsq_yes rfl (by first | rfl | kernel_rfl) 3 (by decide +kernel) (.agg n.cells) (fun w' hw' => Or.inl (exec_load rfl rfl (hld.out w' hw'.1))) (fun K hK => ?_)) | (refine mixsq_yes rfl (by first | rfl | kernel_rfl) 4 (by decide +kernel) (.agg n.cells) (fun w' hw' => Or.inl (exec_load rfl rfl (hld.out w' hw'.1))) (fun K hK => ?_)))
  go_simp
  refine hK _ ?_
  clear hK K
  refine mixsl_yes rfl (by first | rfl | kernel_rfl) (fun K hK => ?_)
  go_simp
  refine (EncodeE_calls w1.drew n (by have := hn300; omega)).mono ?_
  rintro e w3 ⟨r3, rfl, ho3, hB3, _⟩
  have b3 : Below w1.heap.size w1 w3 := bd.trans (hB3.mono bd.size)
  have q3 := Rd.of_own ho3
  obtain ⟨A3, k3, rfl⟩ := ho3.shape
  refine hK (fun W => Below w1.heap.size w1 W ∧ Rd W (.slice A3 (encE n).length k3) (bvs (encE n))) _ _ (fun _ => ⟨⟨b3, q3⟩, ext_all (ext_all (fun _ => b3) b3) b3⟩) ?_
  clear hK K ho3
  (refine mixsq_yes rfl (by first | rfl | kernel_rfl) 3 (by decide +kernel) ?_ (fun w' hw' => Or.inl ?_) (fun K hK => ?_)); rotate_left; (focus (have hb : Below w1.heap.size w1 w' ∧ Rd w' (.slice A3 (encE n).length k3) (bvs (encE n)) := hw'; have s1 := run_str (P := Try.prog) w' 30 9 5 _ _ Try.underlying30 Try.underlying5 Try.underlying9 (hb.2); unfold str at s1; go_simp; rfl)); go_simp; refine hK _ ?_; clear hK K
  (first | (refine mixsq_yes rfl (by first | rfl | kernel_rfl) 0 (by decide +kernel) (.agg n.cells) (fun w' hw' => Or.inl (exec_load rfl rfl (hld.out w' hw'))) (fun K hK => ?_)) | (refine mixsq_yes rfl (by first | rfl | kernel_rfl) 1 (by decide +kernel) (.agg n.cells) (fun w' hw' => Or.inl (exec_load rfl rfl (hld.out w' hw'))) (fun K hK => ?_)) | (refine mixsq_yes rfl (by first | rfl | kernel_rfl) 2 (by decide +kernel) (.agg n.cells) (fun w' hw' => Or.inl (exec_load rfl rfl (hld.out w' hw'))) (fun K hK => ?_)) | (refine mixsq_yes rfl (by first | rfl | kernel_rfl) 3 (by decide +kernel) (.agg n.cells) (fun w' hw' => Or.inl (exec_load rfl rfl (hld.out w' hw'.1))) (fun K hK => ?_)) | (refine mixsq_yes rfl (by first | rfl | kernel_rfl) 4 (by decide +kernel) (.agg n.cells) (fun w' hw' => Or.inl (exec_load rfl rfl (hld.out w' hw'.1))) (fun K hK => ?_)))
  go_simp
  refine hK _ ?_
  clear hK K
  refine mixsl_yes rfl (by first | rfl | kernel_rfl) (fun K hK => ?_)
  go_simp
  refine (REncodeE_calls w3 n (by have := hn300; omega) hi1 hi2).mono ?_
  rintro e w4 ⟨r4, rfl, ho4, hB4, _⟩
  have b4 : Below w1.heap.size w1 w4 := b3.trans (hB4.mono b3.size)
  have q4 := Rd.of_own ho4
  have q3 := q3.below hB4
  obtain ⟨A4, k4, rfl⟩ := ho4.shape
  refine hK (fun W => Below w1.heap.size w1 W ∧ Rd W (.slice A4 (encE n).length k4) (bvs (encE n))) _ _ (fun _ => ⟨⟨b4, q4⟩, ext_all (ext_all (ext_all (fun _ => b4) b4) b4) ⟨b4, q3⟩⟩) ?_
  clear hK K ho4
  (refine mixsq_yes rfl (by first | rfl | kernel_rfl) 4 (by decide +kernel) ?_ (fun w' hw' => Or.inl ?_) (fun K hK => ?_)); rotate_left; (focus (have hb : Below w1.heap.size w1 w' ∧ Rd w' (.slice A4 (encE n).length k4) (bvs (encE n)) := hw'; have s1 := run_str (P := Try.prog) w' 30 9 5 _ _ Try.underlying30 Try.underlying5 Try.underlying9 (hb.2); unfold str at s1; go_simp; rfl)); go_simp; refine hK _ ?_; clear hK K
  (first | refine mixsq_yes rfl (by first | rfl | kernel_rfl) 0 (by decide +kernel) ?_ (fun w' hw' => Or.inl ?_) (fun K hK => ?_) | refine mixsq_yes rfl (by first | rfl | kernel_rfl) 1 (by decide +kernel) ?_ (fun w' hw' => Or.inl ?_) (fun K hK => ?_) | refine mixsq_yes rfl (by first | rfl | kernel_rfl) 2 (by decide +kernel) ?_ (fun w' hw' => Or.inl ?_) (fun K hK => ?_) | refine mixsq_yes rfl (by first | rfl | kernel_rfl) 3 (by decide +kernel) ?_ (fun w' hw' => Or.inl ?_) (fun K hK => ?_) | refine mixsq_yes rfl (by first | rfl | kernel_rfl) 4 (by decide +kernel) ?_ (fun w' hw' => Or.inl ?_) (fun K hK => ?_) | refine mixsq_yes rfl (by first | rfl | kernel_rfl) 5 (by decide +kernel) ?_ (fun w' hw' => Or.inl ?_) (fun K hK => ?_) | refine mixsq_yes rfl (by first | rfl | kernel_rfl) 6 (by decide +kernel) ?_ (fun w' hw' => Or.inl ?_) (fun K hK => ?_)); rotate_left; (focus (go_simp; rfl)); go_simp; refine hK _ ?_; clear hK K
  (first | refine mixsq rfl rfl 0 (by decide +kernel) ?_ (fun w' hw' => Or.inl ?_) (fun K hK => ?_) | refine mixsq rfl rfl 1 (by decide +kernel) ?_ (fun w' hw' => Or.inl ?_) (fun K hK => ?_) | refine mixsq rfl rfl 2 (by decide +kernel) ?_ (fun w' hw' => Or.inl ?_) (fun K hK => ?_) | refine mixsq rfl rfl 3 (by decide +kernel) ?_ (fun w' hw' => Or.inl ?_) (fun K hK => ?_) | refine mixsq rfl rfl 4 (by decide +kernel) ?_ (fun w' hw' => Or.inl ?_) (fun K hK => ?_) | refine mixsq rfl rfl 5 (by decide +kernel) ?_ (fun w' hw' => Or.inl ?_) (fun K hK => ?_) | refine mixsq rfl rfl 6 (by decide +kernel) ?_ (fun w' hw' => Or.inl ?_) (fun K hK => ?_)); rotate_left; (focus (go_simp; rfl)); go_simp; refine hK _ ?_; clear hK K
  refine mixs_nil ?_
  have hb4 := Lib.hid (hbB.out.trans (b4.mono hbB.out.size))
  clear q3 q4 b3 bd hNm hRm hld hC hbk1 c0 hbB hB3 hB4 b4
  have hD := Lib.hid (DecodeE_calls w4 _ bs (hx1.out.below hb4.out) (by omega))
  obtain ⟨o, ho⟩ : ∃ o, o = decD bs := ⟨_, rfl⟩
  rw [← ho] at hD
  have ho := Lib.hid ho
  obtain ⟨⟨nm, ino⟩, er⟩ := o
  go_wp2_with fail
  refine hD.out.mono ?_
  rintro e w5 ⟨rfl, hB5⟩
  have hb5 := Lib.hid (hb4.out.trans (hB5.mono hb4.out.size))
  have e5 : Blk (w5.alloc (.cells #[.string ⟨nm.toArray⟩, .int .i64 ino] 43)) w5.heap.size 43 #[.string ⟨nm.toArray⟩, .int .i64 ino] := Blk.new _ _ _
  have hb5' : Below w.heap.size w (w5.alloc (.cells #[.string ⟨nm.toArray⟩, .int .i64 ino] 43)) := hb5.out.alloc hb5.out.size _
  have hR := RDecodeE_calls (w5.alloc (.cells #[.string ⟨nm.toArray⟩, .int .i64 ino] 43)) _ bs (hx1.out.below hb5') (by omega)
  rw [← ho.out] at hR
  have hR := Lib.hid hR
  have e5 := Lib.hid e5
  have hb5' := Lib.hid hb5'
  clear hD hB5 hb4
  unfold Ent.cells
  simp only
  go_wp2_with fail
  have hR := hR.out
  generalize hw6 : w5.alloc (.cells #[.string ⟨nm.toArray⟩, .int .i64 ino] 43) = w6 at *
  generalize hp5 : w5.heap.size = p5 at *
  refine hR.mono ?_
  rintro e w7 ⟨rfl, hB7⟩
  have e7 := e5.out.chg (Chg.of_below hB7) (S := fun _ => False) id
  have hb7 := hb5'.out.trans (hB7.mono hb5'.out.size)
  have e8 := Lib.hid (e7.alloc (.cells #[.string ⟨nm.toArray⟩, .int .i64 ino] 46))
  have f8 : Blk (w7.alloc (.cells #[.string ⟨nm.toArray⟩, .int .i64 ino] 46)) w7.heap.size 46 #[.string ⟨nm.toArray⟩, .int .i64 ino] := Blk.new _ _ _
  have f8 := Lib.hid f8
  have hb8 := Lib.hid (hb7.alloc hb7.size (.cells #[.string ⟨nm.toArray⟩, .int .i64 ino] 46))
  have hA := Lib.hid (ReadE_calls (w7.alloc (.cells #[.string ⟨nm.toArray⟩, .int .i64 ino] 46)) _ al (hx2.out.below hb8.out) (by omega))
  clear hw6 hp5 hR hB7 e7 hb7 e5 hb5 hb5'
  unfold Ent.cells
  simp only
  go_wp2_with fail
  have hA := hA.out
  generalize hw8 : w7.alloc (.cells #[.string ⟨nm.toArray⟩, .int .i64 ino] 46) = w8 at *
  generalize hp7 : w7.heap.size = p7 at *
  clear hw8 hp7
  refine hA.mono ?_
  rintro e w9 ⟨v9, rfl, hO9, hB9⟩
  have hb9 := Lib.hid (hb8.out.trans (hB9.mono hb8.out.size))
  have e9 := Lib.hid (e8.out.chg (Chg.of_below hB9) (S := fun _ => False) id)
  have f9 := Lib.hid (f8.out.chg (Chg.of_below hB9) (S := fun _ => False) id)
  have hO9 := Lib.hid hO9
  have hA2 := Lib.hid (RReadE_calls w9 _ al (hx2.out.below hb9.out) (by omega))
  obtain ⟨ro, hro⟩ : ∃ ro, Hid (ro = readD al) := ⟨_, rfl⟩
  rw [← hro.out] at hA2 hO9 ⊢
  obtain ⟨res, rer⟩ := ro
  clear hA hB9 e8 f8 hb8
  go_wp2_with fail
  refine hA2.out.mono ?_
  rintro e w10 ⟨v10, rfl, hO10, hB10⟩
  simp only at hO10 ⊢
  have hrl : Hid (res.length ≤ 4096) := by
    show _ ≤ _
    have h1 := readD_len al
    rw [← hro.out] at h1
    exact Nat.le_trans h1 ha4
  have hb10 := Lib.hid (hb9.out.trans (hB10.mono hb9.out.size))
  have e10 := (e9.out.chg (Chg.of_below hB10) (S := fun _ => False) id)
  have f10 := (f9.out.chg (Chg.of_below hB10) (S := fun _ => False) id)
  have a0 : w10.cell? ⟨p5, 0, none⟩ = some (.string ⟨nm.toArray⟩) := e10.cell 0
  have a1 : w10.cell? ⟨p5, 1, none⟩ = some (.int .i64 ino) := e10.cell 1
  have a2 : w10.cell? ⟨p7, 0, none⟩ = some (.string ⟨nm.toArray⟩) := f10.cell 0
  have a3 : w10.cell? ⟨p7, 1, none⟩ = some (.int .i64 ino) := f10.cell 1
  have hSm := Lib.hid (same_calls w10 v9 v10 res ((OwnE.rd hO9.out).below hB10) hO10.rd (by have := hrl.out; omega))
  obtain ⟨B9, k9, rfl⟩ := own_shape hO9.out
  obtain ⟨B10, k10, rfl⟩ := own_shape hO10
  clear hA2 hB10 hO10 hO9 hb9 e9 f9 e10 f10
  go_wp2_with fail
  refine hSm.out.mono ?_
  rintro e w11 ⟨rfl, hB11⟩
  have hbE := Lib.hid (hb10.out.trans (hB11.mono hb10.out.size))
  clear hSm hB11 hb10 a0 a1 a2 a3
  go_wp2
  go_ret
  exact ⟨rfl, hbE.out⟩
end Go.Proofs.Ytoloogpglnonaaa
