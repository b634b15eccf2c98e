/- WalShapes, walked. -/
import Derived.Test.YtlfbfmeppcicnaaWlb
namespace Go.Proofs.Ytlfbfmeppcicnaa
open Go.RowKit
theorem WroteO.bel {W0 w w' : World} {S F : Nat → Prop} {g : Nat} {d : Dk} (hb : Below W0.heap.size W0 w) (hS : ∀ k, S k → W0.heap.size ≤ k) (h : WroteO w S F g d w') : Below W0.heap.size W0 w' := by
  obtain ⟨_, _, _, hc, _⟩ := h
  exact below_chg hb hc hS
def FailOut (W0 : World) (er : Int) (e : Ending) (w' : World) : Prop := e = .returned (.tuple #[.pointer none, .int .i64 er]) ∧ Below W0.heap.size W0 w'
theorem FormatOut.fail {W0 w w' : World} {S F : Nat → Prop} {g : Nat} {o : Int × Dk} {e : Ending} (h : FormatOut w S F g o e w') (hb : Below W0.heap.size W0 w) (hS : ∀ k, S k → W0.heap.size ≤ k) (h0 : o.1 ≠ 0) : FailOut W0 o.1 e w' := by
  rcases h with ⟨_, h1, h2⟩ | ⟨h1, _⟩
  · exact ⟨h1, h2.bel hb hS⟩
  · exact absurd h1 h0
theorem few_fail {d : Dk} (h : d.l.length ≤ 65) : formatP d = (1, d) ∧ openP d = (1, d) := by
  have ha : askW d = 1 := by unfold askW; rw [if_pos h]
  constructor
  · unfold formatP; rw [ha]; rfl
  · unfold openP; rw [ha]; rfl
theorem new_fail {N M : Nat} {d : Dk} (h : Vw N M d fun _ => zblk) (hN : 65 < N) : openP d = (3, d) := by
  have ha : askW d = 0 := by
    unfold askW
    rw [if_neg (by rw [h.dl]; omega), if_neg (by simp [h.of])]
  unfold openP
  rw [if_neg (by simp [ha]), h.vw 0 (by omega), headsP_zblk]
set_option maxRecDepth 10000 in
set_option maxHeartbeats 4000000 in
theorem shapes_calls (w : World) (N : Nat) (h1 : 1 ≤ N) (h2 : N ≤ 300) : Calls Try.prog 15 #[.int .i64 (N : Int)] w fun e w' => e = .returned (.bool true) ∧ Below w.heap.size w w' := by
  go_enter Try.func15, Try.ntmps15
  go_wp2_with fail
  refine (cNew w N h1 (by omega)).mono ?_
  rintro e w1 ⟨g, rfl, hd⟩
  by_cases hN : N ≤ 65
  · obtain ⟨S, F, hdo, hS⟩ := hd.ex
    have hF := Format_calls w1 hdo (hd.vw.fit.mono (by omega)) (by omega)
    rw [(few_fail (show (newD N).l.length ≤ 65 by rw [newD_len]; omega)).1] at hF
    have hF := Lib.hid (hF.mono fun e w' h => h.fail hd.bel (fun k hk => (hS k hk).1) (show (1 : Int) ≠ 0 by decide))
    have hlt : (N : Int) < 66 := by omega
    clear hd hdo hS
    go_wp2_with fail
    refine hF.out.mono ?_
    rintro e w2 ⟨rfl, hb⟩
    clear hF
    go_wp2
    go_ret
    exact ⟨rfl, hb⟩
  · have hF := Lib.hid (cFormat hd (by omega))
    have hlt : ¬ (N : Int) < 66 := by omega
    clear hd
    go_wp2_with fail
    refine hF.out.mono ?_
    rintro e w2 ⟨d, gl, rfl, hl, _⟩
    have hBl := Lib.hid (cBlocks hl (by omega))
    have hb := Lib.hid hl.bel
    rw [show ((N - 65 : Nat) : Int) = (N : Int) - 65 by omega] at hBl
    have hw1 : IntKind.i64.wrap ((N : Int) - 64) = (N : Int) - 64 := by rw [IntKind.wrap_i64]; omega
    have hw2 : IntKind.i64.wrap ((N : Int) - 64 - 1) = (N : Int) - 65 := by rw [IntKind.wrap_i64]; omega
    clear hl hF
    go_wp2_with fail
    refine hBl.out.mono ?_
    rintro e w3 ⟨rfl, rfl⟩
    clear hBl
    go_wp2
    go_ret
    exact ⟨by simp, hb.out⟩
set_option maxRecDepth 10000 in
set_option maxHeartbeats 4000000 in
theorem WalShapes_calls (w : World) {x0 : Int} (ww0 : (Lit.int .i64 x0).wf = true) : Calls Try.prog 3 #[.int .i64 x0] w fun e w' => e = .returned (.bool true) ∧ Below w.heap.size w w' := by
  go_enter Try.func3, Try.ntmps3
  go_wp2_with fail
  refine (known_calls w).mono ?_
  rintro e w1 ⟨rfl, hB1⟩
  have hB1h := Lib.hid hB1
  clear hB1
  by_cases h1 : x0 < 1
  · go_wp2
    go_ret
    exact ⟨rfl, hB1h.out⟩
  · by_cases h2 : 300 < x0
    · go_wp2
      go_ret
      exact ⟨rfl, hB1h.out⟩
    · obtain ⟨N, rfl⟩ := Int.eq_ofNat_of_zero_le (show 0 ≤ x0 by omega)
      have hNw := Lib.hid (cNew w1 N (by omega) (by omega))
      go_wp2_with fail
      refine hNw.out.mono ?_
      rintro e w2 ⟨g, rfl, hd⟩
      obtain ⟨S, F, hdo, hS⟩ := hd.ex
      have hO := Open_calls w2 hdo hd.vw.fit (by omega) (by omega)
      clear hNw
      by_cases hN : N ≤ 65
      · rw [(few_fail (show (newD N).l.length ≤ 65 by rw [newD_len]; omega)).2] at hO
        have hO := Lib.hid (hO.mono fun e w' h => h.fail hd.bel (fun k hk => (hS k hk).1) (show (1 : Int) ≠ 0 by decide))
        have hlt : (N : Int) < 66 := by omega
        clear hd hdo hS
        go_wp2_with fail
        refine hO.out.mono ?_
        rintro e w3 ⟨rfl, hb⟩
        have hb := Lib.hid (hB1h.out.trans (hb.mono hB1h.out.size))
        have hSh := Lib.hid (shapes_calls w3 N (by omega) (by omega))
        clear hO
        go_wp2_with fail
        refine hSh.out.mono ?_
        rintro e w4 ⟨rfl, hb4⟩
        have hb5 := Lib.hid (hb.out.trans (hb4.mono hb.out.size))
        clear hSh hb4
        go_wp2
        go_ret
        exact ⟨rfl, hb5.out⟩
      · rw [new_fail hd.vw (by omega)] at hO
        have hO := Lib.hid (hO.mono fun e w' h => h.fail hd.bel (fun k hk => (hS k hk).1) (show (3 : Int) ≠ 0 by decide))
        have hlt : ¬ (N : Int) < 66 := by omega
        clear hd hdo hS
        go_wp2_with fail
        refine hO.out.mono ?_
        rintro e w3 ⟨rfl, hb⟩
        have hb := Lib.hid (hB1h.out.trans (hb.mono hB1h.out.size))
        have hSh := Lib.hid (shapes_calls w3 N (by omega) (by omega))
        clear hO
        go_wp2_with fail
        refine hSh.out.mono ?_
        rintro e w4 ⟨rfl, hb4⟩
        have hb5 := Lib.hid (hb.out.trans (hb4.mono hb.out.size))
        clear hSh hb4
        go_wp2
        go_ret
        exact ⟨rfl, hb5.out⟩
end Go.Proofs.Ytlfbfmeppcicnaa
