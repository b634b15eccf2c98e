/- Are slots the same? -/
import Derived.Test.YtoloogpglnonaaaDh
import Derived.Laws.StructEq
namespace Go.Proofs.Ytoloogpglnonaaa
open Go.RowKit
theorem RdE.load {t : TypeId} {d : TypeDesc} (hu : Try.prog.underlying t = some d) (hd : d.isRow = true) (hs : (Try.prog.info? t).map (·.size) = some 2) {w : World} {A : Option Addr} {n c : Nat} {es : List Ent} (h : RdE w (.slice A n c) es) {k : Nat} (hk : k < es.length) :
    ∃ ad, A = some ad ∧ ∀ W, Below w.heap.size w W → (Instr.loadAt t (.pointer (some (ad.add (k * 2))))).run Try.prog W = .ok (.agg es[k].row.toArray) W := by
  obtain ⟨ad, e, hc⟩ := RdF.at_ h (k := k) (by rw [List.length_map]; exact hk)
  rw [List.getElem_map] at hc
  refine ⟨ad, e, fun W hW => ?_⟩
  refine run_loadAt_cells (P := Try.prog) W (ad.add (k * 2)) t es[k].row _ (fun j u hu => ?_) hu hd hs
  have h1 := hc j u hu
  have hlt := World.block_lt_of_cell? w _ h1
  exact (hW.cell hlt).trans h1
set_option maxRecDepth 10000 in
set_option maxHeartbeats 4000000 in
theorem same_calls (w : World) (v1 v2 : Value) (es : List Ent) (h1 : RdE w v1 es) (h2 : RdE w v2 es) (hl : es.length ≤ 1000000) :
    Calls Try.prog 23 #[v1, v2] w fun e w' => e = .returned (.bool true) ∧ Below w.heap.size w w' := by
  obtain ⟨A1, c1, rfl⟩ := h1.shape
  obtain ⟨A2, c2, rfl⟩ := h2.shape
  have h1 := Lib.hid h1
  have h2 := Lib.hid h2
  go_enter Try.func23, Try.ntmps23
  go_wp2
  go_loopw [5] (fun i wr => ∃ k : Nat, k ≤ es.length ∧ i = .int .i64 k ∧ Hid (Below w.heap.size w wr)) (fun i _ => es.length - (intOf i).toNat)
  case atStart => exact ⟨0, Nat.zero_le _, rfl, Below.refl _ _⟩
  case round =>
    obtain ⟨k, hk, rfl, hB⟩ := hrel
    by_cases hlt : k < es.length
    · obtain ⟨ad1, rfl, hl1⟩ := RdE.load Try.underlying43 rfl (by kernel_rfl) h1.out hlt
      obtain ⟨ad2, rfl, hl2⟩ := RdE.load Try.underlying46 rfl (by kernel_rfl) h2.out hlt
      generalize es[k] = en at *
      obtain ⟨nm, ino⟩ := en
      have hl1 : ∀ W, Below w.heap.size w W → (Instr.loadAt 43 (.pointer (some (ad1.add (k * 2))))).run Try.prog W = .ok (.agg #[.string ⟨nm.toArray⟩, .int .i64 ino]) W := hl1
      have hl2 : ∀ W, Below w.heap.size w W → (Instr.loadAt 46 (.pointer (some (ad2.add (k * 2))))).run Try.prog W = .ok (.agg #[.string ⟨nm.toArray⟩, .int .i64 ino]) W := hl2
      have hld1 := Lib.hid hl1
      have hld2 := Lib.hid hl2
      clear hl1 hl2
      go_wp2_with fail
      refine wp_mixs (fun W => Below w.heap.size w W) [] (by kernel_rfl) (by kernel_rfl) (by kernel_rfl) (by decide) (hB.out.drew) ?_
      iterate 3 ((refine mixsq rfl rfl 0 (by decide +kernel) ?_ (fun w' hw' => Or.inl ?_) (fun K hK => ?_)); rotate_left; (focus (go_simp; rfl)); go_simp; refine hK _ ?_; clear hK K)
      refine mixsq rfl rfl 0 (by decide +kernel) (.agg #[.string ⟨nm.toArray⟩, .int .i64 ino]) (fun w' hw' => Or.inl (exec_load rfl rfl (hld1.out w' hw'))) (fun K hK => ?_)
      go_simp
      refine hK _ ?_
      clear hK K
      iterate 3 ((refine mixsq rfl rfl 0 (by decide +kernel) ?_ (fun w' hw' => Or.inl ?_) (fun K hK => ?_)); rotate_left; (focus (go_simp; rfl)); go_simp; refine hK _ ?_; clear hK K)
      refine mixsq rfl rfl 0 (by decide +kernel) (.agg #[.string ⟨nm.toArray⟩, .int .i64 ino]) (fun w' hw' => Or.inl (exec_load rfl rfl (hld2.out w' hw'))) (fun K hK => ?_)
      go_simp
      refine hK _ ?_
      clear hK K
      (refine mixsq rfl rfl 0 (by decide +kernel) ?_ (fun w' hw' => Or.inl ?_) (fun K hK => ?_)); rotate_left; (focus (go_simp; rfl)); go_simp; refine hK _ ?_; clear hK K
      refine mixs_nil ?_
      have hB2 : Hid (Below w.heap.size w wr.drew) := hB.out.drew
      go_wp2
      go_roundw
      case rel => exact ⟨k + 1, by omega, by go_num, hB2⟩
      case measure => simp [intOf]; omega
    · obtain rfl : k = es.length := by omega
      go_wp2
      go_ret
      exact ⟨rfl, hB.out⟩
end Go.Proofs.Ytoloogpglnonaaa
