/- The ring: out, first. -/
import Derived.Test.YtfapehgjiglflaaKm
namespace Go.Proofs.Ytfapehgjiglflaa
open Go.RowKit
theorem csf {w : World} {a b : Addr} {v : Value} (h : a.block ≠ b.block) : (w.setCell a v).cell? b = w.cell? b := cso (fun e => h (by rw [e]))
set_option maxRecDepth 10000 in
set_option maxHeartbeats 2000000 in
theorem out_calls (w : World) (k xb xo yb yo : Nat) (p4 : w.cell? ⟨k, 4, none⟩ = some (.pointer (some ⟨xb, xo, none⟩))) (p5 : w.cell? ⟨k, 5, none⟩ = some (.pointer (some ⟨yb, yo, none⟩))) (hx : xb ≠ k) (hy : yb ≠ k)
    (u1 u2 : Option Addr) (e1 : w.cell? ⟨xb, xo + 5, none⟩ = some (.pointer u1)) (f1 : w.frozen? ⟨xb, xo + 5, none⟩ = false)
    (e2 : (w.drew.setCell ⟨xb, xo + 5, none⟩ (.pointer (some ⟨yb, yo, none⟩))).cell? ⟨yb, yo + 4, none⟩ = some (.pointer u2)) (f2 : (w.drew.setCell ⟨xb, xo + 5, none⟩ (.pointer (some ⟨yb, yo, none⟩))).frozen? ⟨yb, yo + 4, none⟩ = false) :
    Calls Try.prog 63 #[.pointer (some ⟨k, 0, none⟩)] w fun e w' => e = .returned (.tuple #[]) ∧ w' = (w.drew.setCell ⟨xb, xo + 5, none⟩ (.pointer (some ⟨yb, yo, none⟩))).setCell ⟨yb, yo + 4, none⟩ (.pointer (some ⟨xb, xo, none⟩)) := by
  have q4 : Hid (w.drew.cell? ⟨k, 4, none⟩ = some (.pointer (some ⟨xb, xo, none⟩))) := p4
  have q5 : Hid (w.drew.cell? ⟨k, 5, none⟩ = some (.pointer (some ⟨yb, yo, none⟩))) := p5
  obtain ⟨w1, hw1⟩ : ∃ w1, w.drew.setCell ⟨xb, xo + 5, none⟩ (.pointer (some ⟨yb, yo, none⟩)) = w1 := ⟨_, rfl⟩
  rw [hw1] at e2 f2 ⊢
  have r4 : Hid (w1.cell? ⟨k, 4, none⟩ = some (.pointer (some ⟨xb, xo, none⟩))) := by
    show _ = _
    rw [← hw1, csf hx]
    exact p4
  have r5 : Hid (w1.cell? ⟨k, 5, none⟩ = some (.pointer (some ⟨yb, yo, none⟩))) := by
    show _ = _
    rw [← hw1, csf hx]
    exact p5
  have s4 : Hid ((w1.setCell ⟨yb, yo + 4, none⟩ (.pointer (some ⟨xb, xo, none⟩))).cell? ⟨k, 4, none⟩ = some (.pointer (some ⟨xb, xo, none⟩))) := by
    show _ = _
    rw [csf hy]
    exact r4.out
  have s5 : Hid ((w1.setCell ⟨yb, yo + 4, none⟩ (.pointer (some ⟨xb, xo, none⟩))).cell? ⟨k, 5, none⟩ = some (.pointer (some ⟨yb, yo, none⟩))) := by
    show _ = _
    rw [csf hy]
    exact r5.out
  have e1' : w.drew.cell? ⟨xb, xo + 5, none⟩ = some (.pointer u1) := e1
  have f1' : w.drew.frozen? ⟨xb, xo + 5, none⟩ = false := f1
  clear p4 p5 hx hy e1 f1
  go_enter Try.func63, Try.ntmps63
  go_wp2_with fail
  refine wp_mixs (fun W => W.cell? ⟨k, 4, none⟩ = some (.pointer (some ⟨xb, xo, none⟩)) ∧ W.cell? ⟨k, 5, none⟩ = some (.pointer (some ⟨yb, yo, none⟩))) [18, 21] (by kernel_rfl) (by kernel_rfl) (by kernel_rfl) (by decide) ⟨q4.out, q5.out⟩ ?_
  iterate 18 ((first | refine mixsq rfl rfl 0 (by decide +kernel) ?_ (fun w' hw' => Or.inl ?_) (fun K hK => ?_) | refine mixsq rfl rfl 1 (by decide +kernel) ?_ (fun w' hw' => Or.inl ?_) (fun K hK => ?_) | refine mixsq rfl rfl 2 (by decide +kernel) ?_ (fun w' hw' => Or.inl ?_) (fun K hK => ?_) | refine mixsq rfl rfl 3 (by decide +kernel) ?_ (fun w' hw' => Or.inl ?_) (fun K hK => ?_)); rotate_left; (focus (obtain ⟨z1, z2⟩ := hw'; go_simp; rfl)); go_simp; refine hK _ ?_; clear hK K)
  refine mixsl rfl rfl (fun K hK => ?_)
  go_simp
  try rw [hw1]
  refine hK (fun W => W.cell? ⟨k, 4, none⟩ = some (.pointer (some ⟨xb, xo, none⟩)) ∧ W.cell? ⟨k, 5, none⟩ = some (.pointer (some ⟨yb, yo, none⟩))) _ _ (fun _ => ⟨⟨r4.out, r5.out⟩, fun _ => ⟨r4.out, r5.out⟩⟩) ?_
  clear hK K
  iterate 2 ((first | refine mixsq rfl rfl 0 (by decide +kernel) ?_ (fun w' hw' => Or.inl ?_) (fun K hK => ?_) | refine mixsq rfl rfl 1 (by decide +kernel) ?_ (fun w' hw' => Or.inl ?_) (fun K hK => ?_) | refine mixsq rfl rfl 2 (by decide +kernel) ?_ (fun w' hw' => Or.inl ?_) (fun K hK => ?_) | refine mixsq rfl rfl 3 (by decide +kernel) ?_ (fun w' hw' => Or.inl ?_) (fun K hK => ?_)); rotate_left; (focus (obtain ⟨z1, z2⟩ := hw'; go_simp; rfl)); go_simp; refine hK _ ?_; clear hK K)
  refine mixsl rfl rfl (fun K hK => ?_)
  go_simp
  refine hK (fun W => True) _ _ (fun _ => ⟨trivial, ext_all (fun _ => ⟨s4.out, s5.out⟩) ⟨s4.out, s5.out⟩⟩) ?_
  clear hK K
  refine mixs_nil ?_
  go_wp2
  go_end0
  exact ⟨rfl, rfl⟩
set_option maxRecDepth 10000 in
set_option maxHeartbeats 2000000 in
theorem first_calls (w : World) (gc k yb yo : Nat) (p8 : w.cell? ⟨gc, 8, none⟩ = some (.pointer (some ⟨yb, yo, none⟩))) (hk : gc ≠ k) (hyk : yb ≠ k)
    (cs : Array Value) (cg : Array Value) (t : Nat) (cy : Array Value) (u2 : Option Addr) (a4 a5 : Option Addr) (hbk : Blk w k 78 cs) (c4 : w.cell? ⟨k, 4, none⟩ = some (.pointer a4)) (c5 : w.cell? ⟨k, 5, none⟩ = some (.pointer a5)) (hbg : Blk w gc 80 cg) (hby : Blk w yb t cy) (cyv : w.cell? ⟨yb, yo + 4, none⟩ = some (.pointer u2)) (hyo : yb = gc → yo = 3) :
    Calls Try.prog 64 #[.pointer (some ⟨gc, 0, none⟩), .pointer (some ⟨k, 0, none⟩)] w fun e w' => e = .returned (.tuple #[]) ∧
      w' = ((((w.drew.setCell ⟨k, 4, none⟩ (.pointer (some ⟨gc, 3, none⟩))).setCell ⟨k, 5, none⟩ (.pointer (some ⟨yb, yo, none⟩))).drew.setCell ⟨gc, 8, none⟩ (.pointer (some ⟨k, 0, none⟩))).setCell ⟨yb, yo + 4, none⟩ (.pointer (some ⟨k, 0, none⟩))) := by
  have q8 : Hid (w.drew.cell? ⟨gc, 8, none⟩ = some (.pointer (some ⟨yb, yo, none⟩))) := p8
  have b0 : Blk w.drew k 78 cs := hbk
  have c4' : w.drew.cell? ⟨k, 4, none⟩ = some (.pointer a4) := c4
  have f4 := b0.frozen 4
  obtain ⟨w1, hw1⟩ : ∃ w1, w.drew.setCell ⟨k, 4, none⟩ (.pointer (some ⟨gc, 3, none⟩)) = w1 := ⟨_, rfl⟩
  have b1 : ∃ cs, Blk w1 k 78 cs := by rw [← hw1]; exact ⟨_, b0.set_ 4 _⟩
  obtain ⟨cs1, b1⟩ := b1
  have f5 := b1.frozen 5
  have v4 : w1.cell? ⟨k, 4, none⟩ = some (.pointer (some ⟨gc, 3, none⟩)) := by rw [← hw1]; exact css c4'
  have v5 : w1.cell? ⟨k, 5, none⟩ = some (.pointer a5) := by rw [← hw1, cso (by simp)]; exact c5
  have v8 : Hid (w1.cell? ⟨gc, 8, none⟩ = some (.pointer (some ⟨yb, yo, none⟩))) := by show _ = _; rw [← hw1, csf (fun e => hk e.symm)]; exact p8
  have g1 : Blk w1 gc 80 cg := by rw [← hw1]; exact Blk.far (show Blk w.drew gc _ cg from hbg) hk _
  have y1 : Blk w1 yb t cy := by rw [← hw1]; exact Blk.far (show Blk w.drew yb _ cy from hby) hyk _
  have z1 : w1.cell? ⟨yb, yo + 4, none⟩ = some (.pointer u2) := by rw [← hw1, csf (fun e => hyk e.symm)]; exact cyv
  obtain ⟨w2, hw2⟩ : ∃ w2, w1.setCell ⟨k, 5, none⟩ (.pointer (some ⟨yb, yo, none⟩)) = w2 := ⟨_, rfl⟩
  have w24 : w2.cell? ⟨k, 4, none⟩ = some (.pointer (some ⟨gc, 3, none⟩)) := by rw [← hw2, cso (by simp)]; exact v4
  have w25 : w2.cell? ⟨k, 5, none⟩ = some (.pointer (some ⟨yb, yo, none⟩)) := by rw [← hw2]; exact css v5
  have w28 : Hid (w2.cell? ⟨gc, 8, none⟩ = some (.pointer (some ⟨yb, yo, none⟩))) := by show _ = _; rw [← hw2, csf (fun e => hk e.symm)]; exact v8.out
  have g2 : Blk w2 gc 80 cg := by rw [← hw2]; exact g1.far hk _
  have y2 : Blk w2 yb t cy := by rw [← hw2]; exact y1.far hyk _
  have z2 : w2.cell? ⟨yb, yo + 4, none⟩ = some (.pointer u2) := by rw [← hw2, csf (fun e => hyk e.symm)]; exact z1
  have d4 : Hid (w2.drew.cell? ⟨k, 4, none⟩ = some (.pointer (some ⟨gc, 3, none⟩))) := w24
  have d5 : Hid (w2.drew.cell? ⟨k, 5, none⟩ = some (.pointer (some ⟨yb, yo, none⟩))) := w25
  have d8 : w2.drew.cell? ⟨gc, 8, none⟩ = some (.pointer (some ⟨yb, yo, none⟩)) := w28.out
  have fd8 : w2.drew.frozen? ⟨gc, 8, none⟩ = false := Blk.frozen (show Blk w2.drew gc _ cg from g2) 8
  obtain ⟨w3, hw3⟩ : ∃ w3, w2.drew.setCell ⟨gc, 8, none⟩ (.pointer (some ⟨k, 0, none⟩)) = w3 := ⟨_, rfl⟩
  have r4 : Hid (w3.cell? ⟨k, 4, none⟩ = some (.pointer (some ⟨gc, 3, none⟩))) := by show _ = _; rw [← hw3, csf hk]; exact d4.out
  have r5 : Hid (w3.cell? ⟨k, 5, none⟩ = some (.pointer (some ⟨yb, yo, none⟩))) := by show _ = _; rw [← hw3, csf hk]; exact d5.out
  have z3 : w3.cell? ⟨yb, yo + 4, none⟩ = some (.pointer u2) := by
    rw [← hw3, cso]
    · exact z2
    · intro e
      injection e with e1 e2
      have := hyo e1.symm
      omega
  have fz3 : w3.frozen? ⟨yb, yo + 4, none⟩ = false := by
    obtain ⟨cy3, y3⟩ := Blk.set_at (show Blk w2.drew yb _ cy from y2) gc 8 (.pointer (some ⟨k, 0, none⟩))
    rw [← hw3]
    exact y3.frozen _
  have s4 : Hid ((w3.setCell ⟨yb, yo + 4, none⟩ (.pointer (some ⟨k, 0, none⟩))).cell? ⟨k, 4, none⟩ = some (.pointer (some ⟨gc, 3, none⟩))) := by show _ = _; rw [csf hyk]; exact r4.out
  have s5 : Hid ((w3.setCell ⟨yb, yo + 4, none⟩ (.pointer (some ⟨k, 0, none⟩))).cell? ⟨k, 5, none⟩ = some (.pointer (some ⟨yb, yo, none⟩))) := by show _ = _; rw [csf hyk]; exact r5.out
  rw [hw1, hw2, hw3]
  clear p8 c4 c5 hbk hbg hby cyv b0 b1 g1 y1 z1 g2 y2 z2 v4 w24 w25 hk hyk hyo
  go_enter Try.func64, Try.ntmps64
  go_wp2_with fail
  refine wp_mixs (fun W => W.cell? ⟨gc, 8, none⟩ = some (.pointer (some ⟨yb, yo, none⟩))) [12, 15] (by kernel_rfl) (by kernel_rfl) (by kernel_rfl) (by decide) q8.out ?_
  iterate 12 ((first | refine mixsq rfl rfl 0 (by decide +kernel) ?_ (fun w' hw' => Or.inl ?_) (fun K hK => ?_) | refine mixsq rfl rfl 1 (by decide +kernel) ?_ (fun w' hw' => Or.inl ?_) (fun K hK => ?_) | refine mixsq rfl rfl 2 (by decide +kernel) ?_ (fun w' hw' => Or.inl ?_) (fun K hK => ?_) | refine mixsq rfl rfl 3 (by decide +kernel) ?_ (fun w' hw' => Or.inl ?_) (fun K hK => ?_)); rotate_left; (focus (have z8 : w'.cell? ⟨gc, 8, none⟩ = some (.pointer (some ⟨yb, yo, none⟩)) := hw'; go_simp; rfl)); go_simp; refine hK _ ?_; clear hK K)
  refine mixsl rfl rfl (fun K hK => ?_)
  go_simp
  try rw [hw1]
  refine hK (fun W => W.cell? ⟨gc, 8, none⟩ = some (.pointer (some ⟨yb, yo, none⟩))) _ _ (fun _ => ⟨v8.out, fun _ => v8.out⟩) ?_
  clear hK K
  iterate 2 ((first | refine mixsq rfl rfl 0 (by decide +kernel) ?_ (fun w' hw' => Or.inl ?_) (fun K hK => ?_) | refine mixsq rfl rfl 1 (by decide +kernel) ?_ (fun w' hw' => Or.inl ?_) (fun K hK => ?_) | refine mixsq rfl rfl 2 (by decide +kernel) ?_ (fun w' hw' => Or.inl ?_) (fun K hK => ?_) | refine mixsq rfl rfl 3 (by decide +kernel) ?_ (fun w' hw' => Or.inl ?_) (fun K hK => ?_)); rotate_left; (focus (have z8 : w'.cell? ⟨gc, 8, none⟩ = some (.pointer (some ⟨yb, yo, none⟩)) := hw'; go_simp; rfl)); go_simp; refine hK _ ?_; clear hK K)
  refine mixsl rfl rfl (fun K hK => ?_)
  go_simp
  try rw [hw2]
  refine hK (fun W => True) _ _ (fun _ => ⟨trivial, ext_all (fun _ => w28.out) w28.out⟩) ?_
  clear hK K
  refine mixs_nil ?_
  clear hw1 v5 f4 f5 c4'
  go_wp2_with fail
  refine wp_mixs (fun W => W.cell? ⟨k, 4, none⟩ = some (.pointer (some ⟨gc, 3, none⟩)) ∧ W.cell? ⟨k, 5, none⟩ = some (.pointer (some ⟨yb, yo, none⟩))) [12, 15] (by kernel_rfl) (by kernel_rfl) (by kernel_rfl) (by decide) ⟨d4.out, d5.out⟩ ?_
  iterate 12 ((first | refine mixsq rfl rfl 0 (by decide +kernel) ?_ (fun w' hw' => Or.inl ?_) (fun K hK => ?_) | refine mixsq rfl rfl 1 (by decide +kernel) ?_ (fun w' hw' => Or.inl ?_) (fun K hK => ?_) | refine mixsq rfl rfl 2 (by decide +kernel) ?_ (fun w' hw' => Or.inl ?_) (fun K hK => ?_) | refine mixsq rfl rfl 3 (by decide +kernel) ?_ (fun w' hw' => Or.inl ?_) (fun K hK => ?_)); rotate_left; (focus (obtain ⟨z1, z2⟩ := hw'; go_simp; rfl)); go_simp; refine hK _ ?_; clear hK K)
  refine mixsl rfl rfl (fun K hK => ?_)
  go_simp
  try rw [hw3]
  refine hK (fun W => W.cell? ⟨k, 4, none⟩ = some (.pointer (some ⟨gc, 3, none⟩)) ∧ W.cell? ⟨k, 5, none⟩ = some (.pointer (some ⟨yb, yo, none⟩))) _ _ (fun _ => ⟨⟨r4.out, r5.out⟩, fun _ => ⟨r4.out, r5.out⟩⟩) ?_
  clear hK K
  iterate 2 ((first | refine mixsq rfl rfl 0 (by decide +kernel) ?_ (fun w' hw' => Or.inl ?_) (fun K hK => ?_) | refine mixsq rfl rfl 1 (by decide +kernel) ?_ (fun w' hw' => Or.inl ?_) (fun K hK => ?_) | refine mixsq rfl rfl 2 (by decide +kernel) ?_ (fun w' hw' => Or.inl ?_) (fun K hK => ?_) | refine mixsq rfl rfl 3 (by decide +kernel) ?_ (fun w' hw' => Or.inl ?_) (fun K hK => ?_)); rotate_left; (focus (obtain ⟨z1, z2⟩ := hw'; go_simp; rfl)); go_simp; refine hK _ ?_; clear hK K)
  refine mixsl rfl rfl (fun K hK => ?_)
  go_simp
  refine hK (fun W => True) _ _ (fun _ => ⟨trivial, ext_all (fun _ => ⟨s4.out, s5.out⟩) ⟨s4.out, s5.out⟩⟩) ?_
  clear hK K
  refine mixs_nil ?_
  go_wp2
  go_end0
  exact ⟨rfl, rfl⟩
end Go.Proofs.Ytfapehgjiglflaa
