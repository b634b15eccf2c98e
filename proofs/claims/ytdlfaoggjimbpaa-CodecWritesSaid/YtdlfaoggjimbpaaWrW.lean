import Derived.Test.YtdlfaoggjimbpaaWrp
import Derived.Deep.CutBlock
namespace Go.Proofs.Ytdlfaoggjimbpaa
open Go.RowKit
def PCells (kd kn : Int) (B : Option Addr) (m d : Nat) : Array Value := #[.int .i64 kd, .int .i64 kn, .slice B m d]
set_option maxRecDepth 100000 in
set_option maxHeartbeats 4000000 in
theorem CodecWrites_calls (w : World) {y : Value} {ps : List Put3} (xx0 : RdP w y ps) (ll0 : ps.length ≤ 9223372036854775807)
    (ww0 : ∀ k (h : k < ps.length), ps[k].bs.length ≤ 9223372036854775807 ∧ (Lit.int .i64 ps[k].kind).wf = true ∧ (Lit.int .i64 ps[k].n).wf = true) :
    Calls Try.prog 3 #[y] w fun e w' => e = .returned (.bool true) ∧ Below w.heap.size w w' := by
  have hy0 := xx0
  obtain ⟨A, c, rfl⟩ := xx0.shape
  go_enter Try.func3, Try.ntmps3
  go_wp2_with fail
  refine (known_calls w).mono ?_
  rintro e w1 ⟨rfl, hB1⟩
  go_wp2_with fail
  refine (few_calls w1 (hy0.below hB1) ll0 ww0).mono ?_
  rintro e w2 ⟨b, rfl, hF, rfl⟩
  cases b
  · go_wp2
    go_ret
    exact ⟨rfl, hB1⟩
  · obtain ⟨f1, f2, f3⟩ := hF rfl
    clear hF f3
    go_wp2_with fail
    refine (NewWriter_calls w1).mono ?_
    rintro e w2 ⟨g, rfl, hg, h2, hB2⟩
    have hg : w.heap.size ≤ g := Nat.le_trans hB1.size hg
    have hB2 : Below w.heap.size w w2 := hB1.trans (hB2.mono hB1.size)
    clear hB1
    have hP : Pair w.heap.size (w2.alloc (.cells #[.slice none 0 0] 30)) g w2.heap.size (.slice none 0 0) (.slice none 0 0) [] [] := by
      refine ⟨h2.chg (Chg.of_below ((Below.refl _ _).alloc (Nat.le_refl _) _)) (S := fun _ => False) (fun _ _ => id), ⟨Blk.new _ _ _, World.ownsRow_nil _ _ _ _⟩, fun k hk hk' => ?_, fun k hk => ?_, fun k hk => ?_⟩
      · have := h2.wlt k hk
        rcases hk' with e | e
        · omega
        · simp [Value.ownBlock] at e
      · rcases hk with e | e
        · omega
        · simp [Value.ownBlock] at e
      · rcases hk with e | e
        · have := hB2.size; omega
        · simp [Value.ownBlock] at e
    have hB3 : Below w.heap.size w (w2.alloc (.cells #[.slice none 0 0] 30)) := hB2.trans ((Below.refl _ _).alloc hB2.size _)
    clear h2
    have hP := Lib.hid hP
    have hB3 := Lib.hid hB3
    go_wp2_with fail
    generalize w2.heap.size = q at *
    go_loopw [5] (fun i wr => ∃ (k : Nat) (v u : Value) (xs : List UInt8), k ≤ ps.length ∧ i = .int .i64 k ∧ Hid (Pair w.heap.size wr g q v u xs xs) ∧ Hid (xs.length ≤ 70000 * k) ∧ Hid (Below w.heap.size w wr)) (fun i _ => ps.length - (intOf i).toNat)
    case atStart => exact ⟨0, _, _, _, Nat.zero_le _, rfl, hP, Nat.zero_le _, hB3⟩
    case round =>
      obtain ⟨k, v, u, xs, hk, rfl, hW, hL, hBr⟩ := hrel
      clear hP hB3 hB2
      by_cases hlt : k < ps.length
      · obtain ⟨ad, B, m, d, rfl, hcell, hm, hr, hblk⟩ := hy0.load hlt
        have hcell := fun j u h => below_get hBr.out (hcell j u h)
        obtain ⟨_, q1, q2⟩ := ww0 k hlt
        have b1 := wf64 q1
        have b2 := wf64 q2
        obtain ⟨fl, _⟩ := f2 k hlt
        have hxl : xs.length ≤ 30000000 := by have := hL.out; omega
        rw [← hm] at fl
        generalize ps[k].kind = kd at *
        generalize ps[k].n = kn at *
        generalize ps[k].bs = bs at *
        have hmb := Lib.hid hm
        have hxh := Lib.hid hxl
        have hbh := Lib.hid hblk
        have hR : Hid (∀ W, Below w.heap.size w W → Rd W (.slice B m d) (bvs bs)) := fun W hW => hr.below hW
        have hld := run_loadAt_cells (P := Try.prog) wr _ 32 _ _ hcell Try.underlying32 rfl (by kernel_rfl)
        clear hm q1 q2 hxl hblk hr hcell
        go_wp2_with (with_reducible refine stop_load 32 ?_)
        refine Stop.mk (wpList_load_cells rfl rfl rfl hld ?_)
        go_upto_block 2 with fail
        have hb : Blk (wr.alloc (.cells #[.int .i64 kd, .int .i64 kn, .slice B m d] 32)) wr.heap.size 32 #[.int .i64 kd, .int .i64 kn, .slice B m d] := Blk.new _ _ _
        have hal : Below wr.heap.size wr (wr.alloc (.cells #[.int .i64 kd, .int .i64 kn, .slice B m d] 32)) := (Below.refl _ _).alloc (Nat.le_refl _) _
        have hPa := Lib.hid (hW.out.below hal)
        have hBa := Lib.hid (hBr.out.trans (hal.mono hBr.out.size))
        have hg1 : Hid (¬ Wset g v wr.heap.size ∧ ¬ Wset q u wr.heap.size) := ⟨fun h => by have := hW.out.a.wlt _ h; omega, fun h => by have := hW.out.b.wlt _ h; omega⟩
        clear hal hld hBr hW
        generalize wr.alloc (.cells #[.int .i64 kd, .int .i64 kn, .slice B m d] 32) = wa at *
        generalize wr.heap.size = p at *
        go_cut [6] from 25 to 78 (fun s6 wx => ∃ (v u : Value) (xs : List UInt8), Hid (Pair w.heap.size wx g q v u xs xs) ∧ Hid (xs.length ≤ 70000 * (k + 1)) ∧ Hid (Below w.heap.size w wx))
        case first =>
          have hbc := fun j => hb.cell j
          have hbf := fun j => hb.frozen j
          have hbh2 := Lib.hid hb
          have hc0 := hbc 0
          have hc1 := hbc 1
          have hc2 := hbc 2
          clear hb hbc
          rcases (show (kd == 1) = true ∨ ((kd == 1) = false ∧ (kd == 2) = true) ∨ ((kd == 1) = false ∧ (kd == 2) = false ∧ (kd == 3) = true) ∨ ((kd == 1) = false ∧ (kd == 2) = false ∧ (kd == 3) = false ∧ (kd == 4) = true) ∨ ((kd == 1) = false ∧ (kd == 2) = false ∧ (kd == 3) = false ∧ (kd == 4) = false) by cases kd == 1 <;> cases kd == 2 <;> cases kd == 3 <;> cases kd == 4 <;> simp) with o1 | ⟨o1, o2⟩ | ⟨o1, o2, o3⟩ | ⟨o1, o2, o3, o4⟩ | ⟨o1, o2, o3, o4⟩
          · skip
            go_wp2_with fail
            refine (U8_calls wa g v xs kn hPa.out.a (Nat.le_trans hxh.out (by omega))).mono ?_
            intro e w3 kk
            obtain ⟨rfl, hc3, v3, hP3, hB3⟩ := hPa.out.first hBa.out kk
            have hb3 := hbh2.out.chg hc3 hg1.out.1
            have d0 := hb3.cell 0; have d1 := hb3.cell 1; have d2 := hb3.cell 2
            have hf3 := fun j => hb3.frozen j
            have hP3 := Lib.hid hP3
            have hB3 := Lib.hid hB3
            clear kk hc3 hb3
            go_wp2_with fail
            refine (WNumber_calls w3 q u xs kn 1 hP3.out.b (Nat.le_trans hxh.out (by omega)) (by omega) b2.1 b2.2).mono ?_
            intro e w4 kk
            obtain ⟨rfl, hc4, v4, hP4, hB4⟩ := hP3.out.second hB3.out kk
            have hP4 := Lib.hid (hP4.cast (xs' := xs ++ [b8 kn]) (ys' := xs ++ [b8 kn]) rfl (by rw [les1]))
            have hL4 : Hid ((xs ++ [b8 kn]).length ≤ 70000 * (k + 1)) := by
              show _ ≤ _
              have := hL.out
              rw [List.length_append]
              simp; omega
            have hB4 := Lib.hid hB4
            clear kk hc4 hL
            generalize xs ++ [b8 kn] = us at *
            go_wp2
            all_goals
              go_meet
              exact ⟨_, _, us, hP4, hL4, hB4⟩
          · skip
            go_wp2_with fail
            refine (U16_calls wa g v xs kn hPa.out.a (Nat.le_trans hxh.out (by omega))).mono ?_
            intro e w3 kk
            obtain ⟨rfl, hc3, v3, hP3, hB3⟩ := hPa.out.first hBa.out kk
            have hb3 := hbh2.out.chg hc3 hg1.out.1
            have d0 := hb3.cell 0; have d1 := hb3.cell 1; have d2 := hb3.cell 2
            have hf3 := fun j => hb3.frozen j
            have hP3 := Lib.hid hP3
            have hB3 := Lib.hid hB3
            clear kk hc3 hb3
            go_wp2_with fail
            refine (WNumber_calls w3 q u xs kn 2 hP3.out.b (Nat.le_trans hxh.out (by omega)) (by omega) b2.1 b2.2).mono ?_
            intro e w4 kk
            obtain ⟨rfl, hc4, v4, hP4, hB4⟩ := hP3.out.second hB3.out kk
            have hP4 := Lib.hid (hP4.cast (xs' := xs ++ le16 kn) (ys' := xs ++ le16 kn) rfl (by rw [les2]))
            have hL4 : Hid ((xs ++ le16 kn).length ≤ 70000 * (k + 1)) := by
              show _ ≤ _
              have := hL.out
              rw [List.length_append]
              simp [le16]; omega
            have hB4 := Lib.hid hB4
            clear kk hc4 hL
            generalize xs ++ le16 kn = us at *
            go_wp2
            all_goals
              go_meet
              exact ⟨_, _, us, hP4, hL4, hB4⟩
          · skip
            go_wp2_with fail
            refine (U32_calls wa g v xs kn hPa.out.a (Nat.le_trans hxh.out (by omega))).mono ?_
            intro e w3 kk
            obtain ⟨rfl, hc3, v3, hP3, hB3⟩ := hPa.out.first hBa.out kk
            have hb3 := hbh2.out.chg hc3 hg1.out.1
            have d0 := hb3.cell 0; have d1 := hb3.cell 1; have d2 := hb3.cell 2
            have hf3 := fun j => hb3.frozen j
            have hP3 := Lib.hid hP3
            have hB3 := Lib.hid hB3
            clear kk hc3 hb3
            go_wp2_with fail
            refine (WNumber_calls w3 q u xs kn 4 hP3.out.b (Nat.le_trans hxh.out (by omega)) (by omega) b2.1 b2.2).mono ?_
            intro e w4 kk
            obtain ⟨rfl, hc4, v4, hP4, hB4⟩ := hP3.out.second hB3.out kk
            have hP4 := Lib.hid (hP4.cast (xs' := xs ++ le32 kn) (ys' := xs ++ le32 kn) rfl (by rw [les4]))
            have hL4 : Hid ((xs ++ le32 kn).length ≤ 70000 * (k + 1)) := by
              show _ ≤ _
              have := hL.out
              rw [List.length_append]
              simp [le32]; omega
            have hB4 := Lib.hid hB4
            clear kk hc4 hL
            generalize xs ++ le32 kn = us at *
            go_wp2
            all_goals
              go_meet
              exact ⟨_, _, us, hP4, hL4, hB4⟩
          · obtain ⟨sz, hsz⟩ : ∃ sz : Nat, Hid (min (max kn 0) 65536 = (sz : Int)) := ⟨(min (max kn 0) 65536).toNat, by show _ = _; omega⟩
            go_wp2_with fail
            refine (Fixed_calls wa g v _ xs bs kn sz hPa.out.a (hR.out wa hBa.out) (Nat.le_trans hxh.out (by omega)) (by have := hmb.out; omega) hsz.out).mono ?_
            intro e w3 kk
            obtain ⟨rfl, hc3, v3, hP3, hB3⟩ := hPa.out.first hBa.out kk
            have hb3 := hbh2.out.chg hc3 hg1.out.1
            have d0 := hb3.cell 0; have d1 := hb3.cell 1; have d2 := hb3.cell 2
            have hf3 := fun j => hb3.frozen j
            have hP3 := Lib.hid hP3
            have hB3 := Lib.hid hB3
            clear kk hc3 hb3
            go_wp2_with fail
            refine (WFixed_calls w3 q u _ xs bs kn sz hP3.out.b (hR.out w3 hB3.out) (fun hne j hj => ⟨fun hw => by have := hbh.out hne j hj; have := hP3.out.gb j hw; omega, Nat.lt_of_lt_of_le (hbh.out hne j hj) hB3.out.size⟩) (Nat.le_trans hxh.out (by omega)) (by have := hmb.out; omega) hsz.out b2.1 b2.2).mono ?_
            intro e w4 kk
            obtain ⟨rfl, hc4, v4, hP4, hB4⟩ := hP3.out.second hB3.out kk
            have hP4 := Lib.hid (hP4.cast (xs' := xs ++ fx bs sz) (ys' := xs ++ fx bs sz) rfl rfl)
            have hL4 : Hid ((xs ++ fx bs sz).length ≤ 70000 * (k + 1)) := by
              show _ ≤ _
              have := hL.out
              rw [List.length_append]
              rw [fx_len]; have := hsz.out; omega
            have hB4 := Lib.hid hB4
            clear kk hc4 hL
            generalize xs ++ fx bs sz = us at *
            go_wp2
            all_goals
              go_meet
              exact ⟨_, _, us, hP4, hL4, hB4⟩
          · skip
            go_wp2_with fail
            refine (Bytes_calls wa g v _ xs bs hPa.out.a (hR.out wa hBa.out) (fun hne j hj hw => by have := hbh.out hne j hj; have := hPa.out.ga j hw; omega) (Nat.le_trans hxh.out (by omega)) (by have := hmb.out; omega)).mono ?_
            intro e w3 kk
            obtain ⟨rfl, hc3, v3, hP3, hB3⟩ := hPa.out.first hBa.out kk
            have hb3 := hbh2.out.chg hc3 hg1.out.1
            have d0 := hb3.cell 0; have d1 := hb3.cell 1; have d2 := hb3.cell 2
            have hf3 := fun j => hb3.frozen j
            have hP3 := Lib.hid hP3
            have hB3 := Lib.hid hB3
            clear kk hc3 hb3
            go_wp2_with fail
            refine (WBytes_calls w3 q u _ xs bs hP3.out.b (hR.out w3 hB3.out) (fun hne j hj hw => by have := hbh.out hne j hj; have := hP3.out.gb j hw; omega) (Nat.le_trans hxh.out (by omega)) (by have := hmb.out; omega)).mono ?_
            intro e w4 kk
            obtain ⟨rfl, hc4, v4, hP4, hB4⟩ := hP3.out.second hB3.out kk
            have hP4 := Lib.hid (hP4.cast (xs' := xs ++ (le32 bs.length ++ bs)) (ys' := xs ++ (le32 bs.length ++ bs)) rfl rfl)
            have hL4 : Hid ((xs ++ (le32 bs.length ++ bs)).length ≤ 70000 * (k + 1)) := by
              show _ ≤ _
              have := hL.out
              rw [List.length_append]
              have := hmb.out; simp [le32]; omega
            have hB4 := Lib.hid hB4
            clear kk hc4 hL
            generalize xs ++ (le32 bs.length ++ bs) = us at *
            go_wp2
            all_goals
              go_meet
              exact ⟨_, _, us, hP4, hL4, hB4⟩
        case rest =>
          obtain ⟨v, u, xs, hP, hL, hB⟩ := hcut
          clear hPa hBa hb hg1
          generalize wc = w5 at *
          have hxs : Hid (xs.length ≤ 100000000) := by show _ ≤ _; have := hL.out; omega
          have hPd : Pair w.heap.size w5.drew g q v u xs xs := hP.out.below (w' := w5.drew) ⟨rfl, rfl, rfl, Nat.le_refl _, fun _ _ => rfl⟩
          have hPd := Lib.hid hPd
          have HD := Lib.hid (Done_calls w5.drew g v xs hPd.out.a (Nat.le_trans hxs.out (by omega)))
          have hb0 := hP.out.b.blk.cell 0
          have hf0 := hP.out.b.blk.frozen 0
          go_wp2_with fail
          have hU : Hid (RWr w5.drew q u xs) := hPd.out.b
          refine wp_mix (fun W => RWr W q u xs ∧ Pair w.heap.size W g q v u xs xs ∧ Below w.heap.size w W) [1, 2] (by kernel_rfl) (by kernel_rfl) (by kernel_rfl) ⟨hU.out, hPd.out, hB.out.drew⟩ ?_
          refine mixq rfl rfl ?_ (fun w' hw' => Or.inl ?_) (fun K hK => ?_); rotate_left; (focus (go_simp; rfl)); go_simp; refine hK _ ?_; clear hK K
          refine mixl rfl rfl (fun K hK => ?_)
          go_simp
          refine HD.out.mono ?_
          rintro e w6 ⟨r, rfl, ho, hb6, hr6⟩
          have hP6 := hPd.out.below hb6
          have hB6 := hB.out.drew.trans (hb6.mono hB.out.size)
          refine hK _ _ (fun _ => ⟨hP6.b, hP6, hB6⟩) ?_
          clear hK K HD
          refine mixl rfl rfl (fun K hK => ?_)
          have s1 := run_str (P := Try.prog) w6 28 9 5 r _ Try.underlying28 Try.underlying5 Try.underlying9 (Rd.of_own ho)
          unfold str at s1
          go_simp
          refine hK _ _ (fun _ => ⟨hP6.b, hP6, hB6⟩) ?_
          clear hK K s1
          iterate 6 (refine mixq rfl rfl ?_ (fun w' hw' => Or.inl ?_) (fun K hK => ?_); rotate_left; (focus (have c2' := hw'.1.blk.cell 0; have s2 := run_str (P := Try.prog) w' 28 9 5 _ _ Try.underlying28 Try.underlying5 Try.underlying9 (Rd.of_own hw'.1.own); unfold str at s2; go_simp; rfl)); go_simp; refine hK _ ?_; clear hK K)
          refine mix_nil ?_
          have hP6 := Lib.hid hP6
          have hB6 := Lib.hid hB6
          clear hP hU hB
          go_wp2
          go_roundw
          case rel => exact ⟨k + 1, v, u, xs, by omega, rfl, hP6, hL, hB6⟩
          case measure => simp [intOf]; omega
      · have hB := hBr.out
        go_wp2
        go_ret
        exact ⟨rfl, hB⟩
end Go.Proofs.Ytdlfaoggjimbpaa
