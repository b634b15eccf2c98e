/- The document's disk: On, Arm, Sync. -/
import Derived.Test.YtjldjfipacagdaaRfa
namespace Go.Proofs.Ytjldjfipacagdaa
open Go.RowKit
set_option maxRecDepth 10000 in
theorem ROn_calls (w : World) (g : Nat) (r : Rf) (S : Nat → Prop) (h : RO w g r S) :
    Calls Try.prog 41 #[.pointer (some ⟨g, 0, none⟩)] w fun e w' => e = .returned (.tuple #[]) ∧ WroteR w S g (onR r) w' := by
  obtain ⟨vl, vw, vp, h, hs⟩ := h
  have hW : Hid (WroteR w S g (onR r) ((w.setCell ⟨g, 2, none⟩ (.bool false)).setCell ⟨g, 3, none⟩ (.int .i64 0))) := by
    have hc : Chg (fun k => k = g) w ((w.setCell ⟨g, 2, none⟩ (.bool false)).setCell ⟨g, 3, none⟩ (.int .i64 0)) := ((Chg.refl (fun k => k = g) w).at_ rfl _).at_ rfl _
    exact (h.put (r' := onR r) hc ((h.blk.set_ 2 _).set_ 3 _) rfl rfl (h.pick_g hc)).wrote hs hc
  have c2 := h.c2
  have c3 := h.c3
  have f2 := h.blk.frozen 2
  have f3 := h.blk.frozen 3
  clear h hs
  go_enter Try.func41, Try.ntmps41
  go_wp2
  go_end0
  exact ⟨rfl, hW.out⟩
set_option maxRecDepth 10000 in
set_option maxHeartbeats 2000000 in
theorem RArm_calls (w : World) (g : Nat) (r : Rf) (S : Nat → Prop) (h : RO w g r S) (n : Int) (x : Value) (picks : List Int) (hx : Rd w x (ivs picks)) (hxn : picks ≠ [] → ∀ j, x.ownBlock = some j → ¬ S j) (hl : picks.length ≤ 1000000000) :
    Calls Try.prog 39 #[.pointer (some ⟨g, 0, none⟩), .int .i64 n, x] w fun e w' => e = .returned (.tuple #[]) ∧ WroteR w S g (armR r n picks) w' := by
  have hSg : S g := by
    obtain ⟨vl, vw, vp, h, hs⟩ := h
    exact (hs g).2 (.inl rfl)
  obtain ⟨vl, vw, vp, h, hs⟩ := h
  have c3 := h.c3
  have c4 := h.c4
  have f3 := h.blk.frozen 3
  have f4 := h.blk.frozen 4
  by_cases hn : 1 ≤ n
  · obtain ⟨i0, hi, hz0, hz1, hz2⟩ := info_parts Try.info_int
    have hp0 : armR r n picks = ⟨r.l, r.wait, r.off, n, picks, r.done⟩ := by unfold armR; rw [if_pos hn, if_pos hn]
    have h0 := Lib.hid h
    have hx0 := Lib.hid hx
    have hs0 := Lib.hid hs
    rw [hp0]
    obtain ⟨A, c, rfl⟩ := hx.shapeI
    have hl0 : (ivs picks).length = picks.length := by simp [ivs]
    rw [hl0] at hx0 hxn ⊢
    generalize picks.length = L at *
    clear hp0 h hx hs
    go_enter Try.func39, Try.ntmps39
    go_wp2_with (at_builtin; refine stop_app rfl ?_)
    generalize hw1 : (((w.setCell ⟨g, 3, none⟩ (.int .i64 0)).setCell ⟨g, 4, none⟩ (.slice none 0 0)).setCell ⟨g, 3, none⟩ (.int .i64 n)) = w1
    have hc1 : Chg (fun k => k = g) w w1 := by rw [← hw1]; exact (((Chg.refl (fun k => k = g) w).at_ rfl _).at_ rfl _).at_ rfl _
    have hb1 : Blk w1 g 57 #[vl, vw, .bool r.off, .int .i64 n, .slice none 0 0, .int .i64 r.done] := by rw [← hw1]; exact ((h0.out.blk.set_ 3 _).set_ 4 _).set_ 3 _
    have hsz : w1.heap.size = w.heap.size := by rw [← hw1]; simp [World.setCell]
    have hx1 : Rd w1 (.slice A L c) (ivs picks) := hx0.out.chgN hc1 (fun hne j hj e => hxn (fun e2 => hne (by rw [e2]; rfl)) j hj (e ▸ hSg))
    have ho : (w1.alloc (.cells #[] 3)).ownsRow 0 3 1 (.slice (some ⟨w1.heap.size, 0, none⟩) 0 0) 0 [] := World.ownsRow_made w1 #[] 0 (Nat.zero_le _) (by unfold maxLen; omega) rfl
    rw [← hsz]
    refine Stop.mk (wpList_app _ rfl rfl (us := ivs picks) (base := 0) Try.underlying36 hi hz0 hz1 hz2 rfl ho rfl (hx1.alloc _) rfl (ivs_one _) ?_ ?_ (Nat.zero_le _) ?_)
    · unfold maxLen; rw [hl0]; omega
    · rw [hl0]; omega
    intro v9 w9 hown hg hat
    rw [hl0, Nat.zero_add, List.nil_append] at hown
    obtain ⟨A9, c9, rfl⟩ := own_shape hown
    have hne : some g ≠ (Value.slice (some (⟨w1.heap.size, 0, none⟩ : Addr)) 0 0).ownBlock := by
      have := hb1.lt
      simp [Value.ownBlock]; omega
    have hb9 : Blk w9 g 57 #[vl, vw, .bool r.off, .int .i64 n, .slice none 0 0, .int .i64 r.done] := (hb1.alloc _).grown hg hne
    have hc9 : Chg (fun k => k = g) w w9 := (hc1.alloc (.cells #[] 3)).grown hg (fun k hk hlt => by simp [Value.ownBlock] at hk; omega)
    have hfin : Hid (WroteR w S g ⟨r.l, r.wait, r.off, n, picks, r.done⟩ (w9.setCell ⟨g, 4, none⟩ (.slice A9 L c9))) := by
      have hce : Chg (fun k => k = g) w (w9.setCell ⟨g, 4, none⟩ (.slice A9 L c9)) := hc9.at_ rfl _
      have hp9 : RdT (fun _ => True) 3 w9 (.slice A9 L c9) (ivs picks) := RdT.of_own (base := 0) (n := L) hown (fun _ _ => trivial)
      refine (h0.out.put (r' := ⟨r.l, r.wait, r.off, n, picks, r.done⟩) hce (hb9.set_ 4 _) rfl rfl ?_).wrote hs0.out hce
      exact hp9.chg (chg_set ⟨g, 4, none⟩ _) (fun k cs hk e => by
        have e : k = g := e
        subst e
        exact absurd rfl (hk.ne_ hb9 (by decide)))
    have c4 : w9.cell? ⟨g, 4, none⟩ = some (.slice none 0 0) := hb9.cell 4
    have f4 := hb9.frozen 4
    clear hown hg hat hne hb9 hc9 hb1 hc1 hx1 ho h0 hx0 hs0 c3 f3 hw1 hsz
    go_wp2
    go_end0
    exact ⟨rfl, hfin.out⟩
  · have hp0 : armR r n picks = ⟨r.l, r.wait, r.off, 0, [], r.done⟩ := by unfold armR; rw [if_neg hn, if_neg hn]
    rw [hp0]
    have hW : Hid (WroteR w S g ⟨r.l, r.wait, r.off, 0, [], r.done⟩ ((w.setCell ⟨g, 3, none⟩ (.int .i64 0)).setCell ⟨g, 4, none⟩ (.slice none 0 0))) := by
      have hc : Chg (fun k => k = g) w ((w.setCell ⟨g, 3, none⟩ (.int .i64 0)).setCell ⟨g, 4, none⟩ (.slice none 0 0)) := ((Chg.refl (fun k => k = g) w).at_ rfl _).at_ rfl _
      exact (h.put (r' := ⟨r.l, r.wait, r.off, 0, [], r.done⟩) hc ((h.blk.set_ 3 _).set_ 4 _) rfl rfl (RdT.nil _ _)).wrote hs hc
    clear h hs hp0 hx
    go_enter Try.func39, Try.ntmps39
    go_wp2
    go_end0
    exact ⟨rfl, hW.out⟩
end Go.Proofs.Ytjldjfipacagdaa
