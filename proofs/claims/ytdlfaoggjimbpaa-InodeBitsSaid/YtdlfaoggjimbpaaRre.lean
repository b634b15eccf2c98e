import Derived.Test.YtdlfaoggjimbpaaRrd
namespace Go.Proofs.Ytdlfaoggjimbpaa
open Go.RowKit
def REndOut (w : World) (g : Nat) (b : Value) (bs : List UInt8) (p : Nat) (r : Int) (e : Ending) (w' : World) : Prop :=
  e = .returned (.int .i64 r) ∧ RRd w' g b bs p r ∧ Chg (fun k => k = g) w w'
set_option maxHeartbeats 1000000 in
theorem RREnd_calls (w : World) (g : Nat) (b : Value) (bs : List UInt8) (p : Nat) (err : Int) (h : RRd w g b bs p err) (hl : bs.length ≤ 1000000000) :
    Calls Try.prog 34 #[.pointer (some ⟨g, 0, none⟩)] w (REndOut w g b bs p (endP (bs.drop p) err)) := by
  have c0 := h.blk.cell 0
  have c1 := h.blk.cell 1
  have c2 := h.blk.cell 2
  have f2 := h.blk.frozen 2
  have hle := h.le
  obtain ⟨A, c, rfl⟩ := h.rd.shape8
  by_cases he : err = 0
  · subst he
    by_cases hp : p < bs.length
    · have ht : endP (bs.drop p) 0 = 3 := by
        unfold endP
        rw [if_pos ⟨rfl, by intro e; have := congrArg List.length e; rw [List.length_drop, List.length_nil] at this; omega⟩]
      rw [ht]
      clear ht
      have hd : decide ((p : Int) < (bs.length : Int)) = true := by rw [decide_eq_true_iff]; omega
      go_enter Try.func34, Try.ntmps34
      go_wp2_with fail
      go_quiet (fail)
      have hN := h.drewN nq
      have hC := (Chg.refl (fun k => k = g) w).drewN nq
      clear c0 c1 c2 f2
      generalize w.drewN nq = wn at *
      have c2 := hN.blk.cell 2
      have f2 := hN.blk.frozen 2
      go_wp2
      go_ret
      exact ⟨rfl, ⟨hN.blk.set_ 2 _, hN.rd.far8 (by exact hN.ne) _, hN.ne, hN.le⟩, hC.setCell (p := ⟨g, 2, none⟩) (fun _ => rfl) _⟩
    · have ht : endP (bs.drop p) 0 = 0 := by
        unfold endP
        rw [if_neg (fun x => x.2 (List.drop_eq_nil_of_le (by omega)))]
      rw [ht]
      clear ht
      have hd : decide ((p : Int) < (bs.length : Int)) = false := by rw [decide_eq_false_iff_not]; omega
      go_enter Try.func34, Try.ntmps34
      go_wp2_with fail
      go_quiet (fail)
      have hN := h.drewN nq
      have hC := (Chg.refl (fun k => k = g) w).drewN nq
      clear c0 c1 c2 f2
      generalize w.drewN nq = wn at *
      have c2 := hN.blk.cell 2
      have f2 := hN.blk.frozen 2
      go_wp2
      go_ret
      exact ⟨rfl, hN, hC⟩
  · have ht : endP (bs.drop p) err = err := by simp [endP, he]
    rw [ht]
    clear ht
    have hb : (err == 0) = false := by simpa using he
    go_enter Try.func34, Try.ntmps34
    go_wp2_with fail
    go_quiet (fail)
    have hN := h.drewN nq
    have hC := (Chg.refl (fun k => k = g) w).drewN nq
    clear c0 c1 c2 f2
    generalize w.drewN nq = wn at *
    have c2 := hN.blk.cell 2
    have f2 := hN.blk.frozen 2
    go_wp2
    go_ret
    exact ⟨rfl, hN, hC⟩
theorem RFixOut.then_ {w w1 w2 : World} {g : Nat} {b : Value} {bs : List UInt8} {o : List UInt8 × List UInt8 × Int} {e : Ending} (h : Chg (fun k => k = g) w w1) (k : RFixOut w1 g b bs o e w2) : RFixOut w g b bs o e w2 := by
  obtain ⟨out, p, h1, h2, h3, h4, h5, h6⟩ := k
  exact ⟨out, p, h1, h2, h3, h4, h.trans h5, fun i hi => Nat.le_trans h.size (h6 i hi)⟩
set_option maxHeartbeats 1000000 in
theorem RRBytes_walk (w : World) (g : Nat) (b : Value) (bs : List UInt8) (most : Int) (a rs1 : List UInt8) (e1 : Int) (hU : Calls Try.prog 26 #[.pointer (some ⟨g, 0, none⟩), .int .i64 4] w (RNumOut w g b bs (a, rs1, e1))) (hl : bs.length ≤ 1000000000) (ha : numP a < 4294967296) :
    Calls Try.prog 32 #[.pointer (some ⟨g, 0, none⟩), .int .i64 most] w (RFixOut w g b bs (takeP rs1 (if e1 = 0 ∧ most < (numP a : Int) then 5 else e1) (numP a))) := by
  have HU := Lib.hid hU
  clear hU
  by_cases he : e1 = 0
  · subst he
    by_cases hm : most < (numP a : Int)
    · rw [if_pos ⟨rfl, hm⟩]
      go_enter Try.func32, Try.ntmps32
      go_wp2_with fail
      refine HU.out.mono ?_
      rintro e w1 ⟨rfl, p, h2, h3, h5⟩
      have c2 := h2.blk.cell 2
      have f2 := h2.blk.frozen 2
      go_wp2_with fail
      refine (RRFixed_calls _ g b bs p 5 (numP a) ⟨h2.blk.set_ 2 _, h2.rd.far8 (by exact h2.ne) _, h2.ne, h2.le⟩ hl (by omega) (by omega)).mono ?_
      intro e w2 k
      rw [h3] at k
      obtain ⟨out, p2, rfl, k1, k3, k4, k5, k6⟩ := k.then_ (h5.setCell (p := ⟨g, 2, none⟩) (fun _ => rfl) _)
      go_wp2
      go_ret
      exact ⟨out, p2, rfl, k1, k3, k4, k5, k6⟩
    · rw [if_neg (fun h => hm h.2)]
      go_enter Try.func32, Try.ntmps32
      go_wp2_with fail
      refine HU.out.mono ?_
      rintro e w1 ⟨rfl, p, h2, h3, h5⟩
      have c2 := h2.blk.cell 2
      go_wp2_with fail
      refine (RRFixed_calls _ g b bs p 0 (numP a) h2 hl (by omega) (by omega)).mono ?_
      intro e w2 k
      rw [h3] at k
      obtain ⟨out, p2, rfl, k1, k3, k4, k5, k6⟩ := k.then_ h5
      go_wp2
      go_ret
      exact ⟨out, p2, rfl, k1, k3, k4, k5, k6⟩
  · rw [if_neg (fun h => he h.1)]
    have hb : (e1 == 0) = false := by simpa using he
    go_enter Try.func32, Try.ntmps32
    go_wp2_with fail
    refine HU.out.mono ?_
    rintro e w1 ⟨rfl, p, h2, h3, h5⟩
    have c2 := h2.blk.cell 2
    go_wp2_with fail
    refine (RRFixed_calls _ g b bs p e1 (numP a) h2 hl (by omega) (by omega)).mono ?_
    intro e w2 k
    rw [h3] at k
    obtain ⟨out, p2, rfl, k1, k3, k4, k5, k6⟩ := k.then_ h5
    go_wp2
    go_ret
    exact ⟨out, p2, rfl, k1, k3, k4, k5, k6⟩
theorem RRBytes_calls (w : World) (g : Nat) (b : Value) (bs : List UInt8) (p : Nat) (err most : Int) (h : RRd w g b bs p err) (hl : bs.length ≤ 1000000000) :
    Calls Try.prog 32 #[.pointer (some ⟨g, 0, none⟩), .int .i64 most] w (RFixOut w g b bs (bytesP (bs.drop p) err most)) :=
  RRBytes_walk w g b bs most (takeP (bs.drop p) err 4).1 (takeP (bs.drop p) err 4).2.1 (takeP (bs.drop p) err 4).2.2 (RRNumber_calls w g b bs p err 4 h hl (by omega)) hl (numP_take4 _ err)
end Go.Proofs.Ytdlfaoggjimbpaa
