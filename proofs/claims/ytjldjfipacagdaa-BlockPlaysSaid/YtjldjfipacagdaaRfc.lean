/- The document's disk: Cut. -/
import Derived.Test.YtjldjfipacagdaaRfs
namespace Go.Proofs.Ytjldjfipacagdaa
open Go.RowKit
theorem idxR_le (r : Rf) (n : Nat) : idxR r n ≤ n := by
  unfold idxR
  exact Nat.le_trans (List.length_filter_le _ _) (by simp)
theorem own_lts {w : World} {base e size n : Nat} {v : Value} {xs : List Value} (h : w.ownsRow base e size v n xs) : ∀ j, v.ownBlock = some j → j < w.heap.size := fun j hj => by
  obtain ⟨cs, hk⟩ := own_kind h hj
  exact hk.lt
set_option maxRecDepth 10000 in
set_option maxHeartbeats 8000000 in
theorem RCut_calls (w : World) (g : Nat) (r : Rf) (S : Nat → Prop) (h : RO w g r S) (hw : r.wait.length ≤ 1000000) (hN : r.l.length ≤ 16384) (x : Value) (picks : List Int) (hx : Rd w x (ivs picks)) (hxn : picks ≠ [] → ∀ j, x.ownBlock = some j → ¬ S j) (hl : picks.length ≤ 1000000000) :
    Calls Try.prog 40 #[.pointer (some ⟨g, 0, none⟩), x] w fun e w' => e = .returned (.tuple #[]) ∧ WroteR w S g (cutR r picks) w' := by
  have hW0 := Lib.hid (WroteR.refl h)
  obtain ⟨vl, vw, vp, h, hs⟩ := h
  have c2 := h.c2
  cases ho : r.off
  · have e : cutR r picks = ⟨(List.range r.l.length).map (cutBR r picks), [], true, 0, r.picks, r.done⟩ := by unfold cutR; rw [if_neg (by simp [ho])]
    rw [e]
    rw [ho] at c2
    have hs0 := Lib.hid hs
    obtain ⟨lA, lc, rfl⟩ := own_shape h.row
    obtain ⟨xA, xc, rfl⟩ := hx.shapeI
    have hfn : Hid (cutLK r picks r.l.length = (List.range r.l.length).map (cutBR r picks)) := cutLK_end r picks
    have hcl : Hid (∀ k, (cutLK r picks k).length = r.l.length) := cutLK_len r picks
    have hz : Hid (RDsk w g (.slice lA r.l.length lc) vw vp ⟨cutLK r picks 0, r.wait, r.off, r.armed, r.picks, r.done⟩) := by
      rw [cutLK_zero]
      exact h
    have hi0 : Hid (idxR r 0 = 0) := rfl
    have hpl0 : (ivs picks).length = picks.length := by simp [ivs]
    have hx0 := Lib.hid hx
    have hxnh : Hid (ivs picks ≠ [] → ∀ j, (Value.slice xA (ivs picks).length xc).ownBlock = some j → ¬ S j) := fun hne => hxn (fun e => hne (by rw [e]; rfl))
    rw [hpl0] at hx0 hxnh ⊢
    obtain ⟨N, hN'⟩ : ∃ N, Hid (N = r.l.length) := ⟨_, rfl⟩
    rw [← hN'.out] at hN hfn hcl hz hs0
    clear h hs e hW0 hx hxn hpl0
    go_enter Try.func40, Try.ntmps40
    go_wp2
    go_loopw [4, 5, 6, 7] (fun i n _ _ wr => ∃ k : Nat, k ≤ N ∧ n = .int .i64 (k : Int) ∧ i = .int .i64 (idxR r k : Int) ∧ Hid (RDsk wr g (.slice lA N lc) vw vp ⟨cutLK r picks k, r.wait, r.off, r.armed, r.picks, r.done⟩) ∧ Hid (Chg S w wr)) (fun _ n _ _ _ => N - (RowKit.intOf n).toNat)
    case atStart => exact ⟨0, Nat.zero_le _, rfl, by rw [hi0.out]; rfl, hz, Chg.refl _ _⟩
    case round =>
      obtain ⟨k, hk, rfl, rfl, hD, hC⟩ := hrel
      have c0 := hD.out.c0
      clear c2 hz
      by_cases hlt : k < N
      · have hV := Lib.hid (Rvers_calls wr g ⟨cutLK r picks k, r.wait, r.off, r.armed, r.picks, r.done⟩ _ ⟨_, _, _, hD.out, fun _ => Iff.rfl⟩ k hw)
        have hcb : Hid (cutBR r picks k = pickB (r.l.getD k []) (versL r.wait k) (picks.getD (idxR r k) 0)) := rfl
        have hidx : Hid (idxR r (k + 1) = idxR r k + (if versL r.wait k = [] then 0 else 1)) := idxR_succ r k
        have hjk := idxR_le r k
        have hvl := versL_le r.wait k
        have hlw := Lib.hid (own_lts hD.out.row)
        simp only at hV
        generalize versL r.wait k = vs at *
        generalize idxR r k = j at *
        go_wp2_with fail
        refine hV.out.mono ?_
        rintro e w1 ⟨v, rfl, hown, hB⟩
        have hD1 := Lib.hid (hD.out.below hB)
        have hC1 : Hid (Chg S w w1) := hC.out.trans ((Chg.of_below hB).mono (fun i hi h => absurd hi (by have : wr.heap.size ≤ i := h; omega)))
        obtain ⟨vA, vc, rfl⟩ := own_shape hown
        have hown := Lib.hid hown
        have hvm : vs.length ≤ 1000000 := by omega
        clear hV hD hC c0 hB hvl
        by_cases hvs : vs = []
        · have hidx : Hid (idxR r (k + 1) = j) := by
            have := hidx.out
            rwa [if_pos hvs] at this
          have hskip : Hid (cutBR r picks k = r.l.getD k []) := by
            show _ = _
            rw [hcb.out, hvs, pickB_nil]
          have hv0 : vs.length = 0 := by rw [hvs]; rfl
          generalize vs.length = m at *
          clear hcb hvs hlw
          have hn1 : Hid (cutLK r picks (k + 1) = cutLK r picks k) := cutLK_skip r picks hskip.out
          have hD2 : Hid (RDsk w1 g (.slice lA N lc) vw vp ⟨cutLK r picks (k + 1), r.wait, r.off, r.armed, r.picks, r.done⟩) := by
            rw [hn1.out]
            exact hD1.out
          clear hskip hn1 hD1 hown
          go_wp2
          go_roundw
          case rel => exact ⟨k + 1, by omega, by go_num, by first | (rw [hidx.out]; done) | (rw [hidx.out]; go_num), hD2, hC1⟩
          case measure => simp [RowKit.intOf]; omega
        · have hidx : Hid (idxR r (k + 1) = j + 1) := by
            have := hidx.out
            rwa [if_neg hvs] at this
          have hv0 : 0 < vs.length := List.length_pos_iff.2 hvs
          clear hvs
          by_cases hp : j < picks.length
          · obtain ⟨pad, rfl, hpc⟩ := (hx0.out.chgN hC1.out hxnh.out).intAt hp
            have hpg : picks.getD j 0 = picks[j] := by rw [List.getD_eq_getElem?_getD, List.getElem?_eq_getElem hp]; rfl
            rw [hpg] at hcb
            generalize picks[j] = p at *
            have hpi : (j : Int) < (picks.length : Int) := by omega
            have hm0 : ¬ ((vs.length : Int) + 1 = 0) := by omega
            have hqa : Int.tmod p ((vs.length : Int) + 1) < (vs.length : Int) + 1 := Int.tmod_lt_of_pos _ (by omega)
            have hqb : -((vs.length : Int) + 1) < Int.tmod p ((vs.length : Int) + 1) := Int.lt_tmod_of_pos _ (by omega)
            rcases (show Int.tmod p ((vs.length : Int) + 1) < 0 ∨ Int.tmod p ((vs.length : Int) + 1) = 0 ∨ 0 < Int.tmod p ((vs.length : Int) + 1) by omega) with hq | hq | hq
            · obtain ⟨K, hK⟩ : ∃ K : Nat, Int.tmod p ((vs.length : Int) + 1) = -(K : Int) := ⟨(-(Int.tmod p ((vs.length : Int) + 1))).toNat, by omega⟩
              rw [hK] at hq hqa hqb
              obtain ⟨q, hqe⟩ : ∃ q : Int, q = -(K : Int) := ⟨_, rfl⟩
              have hK0 : 0 < K := by omega
              have hKm : K ≤ vs.length := by omega
              obtain ⟨K2, hK2⟩ : ∃ K2 : Nat, K2 = vs.length + 1 - K := ⟨_, rfl⟩
              have hpe : Hid ((p % ((vs.length : Int) + 1)).toNat = K2) := by
                show _ = _
                rw [pick_neg hK hKm hK0, hK2]
                rfl
              rw [← hqe] at hK
              have hq0 : q < 0 := by omega
              have hK21 : 1 ≤ K2 := by omega
              have hK2m : K2 ≤ vs.length := by omega
              have hsum : q + (vs.length : Int) + 1 = (K2 : Int) := by omega
              clear hq hqa hqb hK2 hqe hpg hKm hK0
              obtain ⟨K', rfl⟩ : ∃ K', K2 = K' + 1 := ⟨K2 - 1, by omega⟩
              have hK1 : K' < vs.length := by omega
              obtain ⟨bb, hbb⟩ : ∃ b, vs[K']? = some b := ⟨_, List.getElem?_eq_getElem (by omega)⟩
              have hf1 : bb = cutBR r picks k := by
                rw [hcb.out]
                unfold pickB
                rw [hpe.out]
                show bb = vs.getD K' _
                rw [List.getD_eq_getElem?_getD, hbb]
                rfl
              have hst := Lib.hid (cutLK_set r picks hf1)
              obtain ⟨vb, vc, ev⟩ := own_at hown.out (by omega)
              have ev2 := (Value.slice.inj ev).1
              clear ev
              subst ev2
              have hvb : wr.heap.size ≤ vb := own_ge hown.out vb rfl
              have hcu : w1.drew.cell? ⟨vb, K', none⟩ = some (str bb) := by
                have h1 := World.ownsRow.cells hown.out rfl K' (str bb) (by unfold svs; rw [List.getElem?_map, hbb]; rfl)
                rw [addr_add_at, Nat.zero_add] at h1
                exact h1
              have hDd := hD1.out.drew
              obtain ⟨lb, lbc, el, hcell⟩ := hDd.lat (k := k) (by show _ < (cutLK r picks k).length; rw [hcl.out]; omega)
              have el2 := (Value.slice.inj el).1
              clear el
              subst el2
              have hN2 : N = (cutLK r picks k).length := (hcl.out k).symm
              have hfz : w1.drew.frozen? ⟨lb, k, none⟩ = false := by
                have h1 := hDd.row
                have hN3 : (⟨cutLK r picks k, r.wait, r.off, r.armed, r.picks, r.done⟩ : Rf).l.length = N := hN2.symm
                rw [hN3] at h1
                exact World.ownsRow.frozenAt h1 _
              have hDn := Lib.hid (hDd.setL hN2 k bb)
              have hlv : vb ≠ lb := by
                have h2 := hlw.out lb rfl
                omega
              have hcu2 : Hid ((w1.drew.setCell ⟨lb, k, none⟩ (str bb)).cell? ⟨vb, K', none⟩ = some (str bb)) := by
                show _ = _
                rw [World.cell?_of_block (w := w1.drew) (Below.heap_setCell _ _ _ _ hlv)]
                exact hcu
              have hc0 := Lib.hid hDd.c0
              have hc02 := Lib.hid hDn.out.c0
              have hSl : S lb := (hs0.out lb).2 (.inr (.inl rfl))
              have hCc := Lib.hid (hC1.out.drew.at_ (g := lb) (i := k) hSl (str bb))
              have hcuh := Lib.hid hcu
              simp only at hDn hcell hst
              clear hcu hDd hN2 hC1 hD1 hSl hlv hvb hown hf1 hbb hcb hlw
              rw [hst.out] at hDn
              generalize (cutLK r picks k).getD k [] = ob at *
              unfold str at *
              have hmw2 : IntKind.i64.wrap (K' : Int) = (K' : Int) := by rw [IntKind.wrap_i64]; omega
              have hmlt : (K' : Int) < (vs.length : Int) := by omega
              go_wp2_with fail
              refine wp_mixs (fun W => W.cell? ⟨g, 0, none⟩ = some (.slice (some ⟨lb, 0, none⟩) N lc) ∧ W.cell? ⟨vb, K', none⟩ = some (.string ⟨bb.toArray⟩)) [11] (by kernel_rfl) (by kernel_rfl) (by kernel_rfl) (by decide) ⟨hc0.out, hcuh.out⟩ ?_
              iterate 11 ((refine mixsq rfl rfl 0 (by decide +kernel) ?_ (fun w' hw' => Or.inl ?_) (fun K hK => ?_)); rotate_left; (focus (obtain ⟨q0, q1⟩ := hw'; go_simp; rfl)); go_simp; refine hK _ ?_; clear hK K)
              refine mixsl rfl rfl (fun K hK => ?_)
              go_simp
              refine hK (fun _ => True) _ _ (fun _ => ⟨trivial, fun _ => ⟨hc02.out, hcu2.out⟩⟩) ?_
              clear hK K
              refine mixs_nil ?_
              clear hc0 hc02 hcuh hcu2 hfz hcell hst
              go_wp2
              go_roundw
              case rel => exact ⟨k + 1, by omega, by go_num, by first | (rw [hidx.out]; done) | (rw [hidx.out]; go_num), hDn, hCc⟩
              case measure => simp [RowKit.intOf]; omega
            · have hpe : (p % ((vs.length : Int) + 1)) = ((0 : Nat) : Int) := pick_pos hq (Nat.zero_le _)
              have hskip : Hid (cutBR r picks k = r.l.getD k []) := by
                show _ = _
                rw [hcb.out]
                unfold pickB
                rw [hpe]
                rfl
              clear hpe hcb hqa hqb hpg hlw
              generalize vs.length = m at *
              have hn1 : Hid (cutLK r picks (k + 1) = cutLK r picks k) := cutLK_skip r picks hskip.out
              have hD2 : Hid (RDsk w1 g (.slice lA N lc) vw vp ⟨cutLK r picks (k + 1), r.wait, r.off, r.armed, r.picks, r.done⟩) := by
                rw [hn1.out]
                exact hD1.out
              clear hskip hn1 hD1 hown
              go_wp2
              go_roundw
              case rel => exact ⟨k + 1, by omega, by go_num, by first | (rw [hidx.out]; done) | (rw [hidx.out]; go_num), hD2, hC1⟩
              case measure => simp [RowKit.intOf]; omega
            · obtain ⟨K, hK⟩ : ∃ K : Nat, Int.tmod p ((vs.length : Int) + 1) = (K : Int) := ⟨(Int.tmod p ((vs.length : Int) + 1)).toNat, by omega⟩
              rw [hK] at hq hqa hqb
              have hK0 : 1 ≤ K := by omega
              have hKm : K ≤ vs.length := by omega
              have hpe : Hid ((p % ((vs.length : Int) + 1)).toNat = K) := by
                show _ = _
                rw [pick_pos hK hKm]
                rfl
              clear hq hqa hqb hpg
              obtain ⟨K', rfl⟩ : ∃ K', K = K' + 1 := ⟨K - 1, by omega⟩
              have hK1 : K' < vs.length := by omega
              obtain ⟨bb, hbb⟩ : ∃ b, vs[K']? = some b := ⟨_, List.getElem?_eq_getElem (by omega)⟩
              have hf1 : bb = cutBR r picks k := by
                rw [hcb.out]
                unfold pickB
                rw [hpe.out]
                show bb = vs.getD K' _
                rw [List.getD_eq_getElem?_getD, hbb]
                rfl
              have hst := Lib.hid (cutLK_set r picks hf1)
              obtain ⟨vb, vc, ev⟩ := own_at hown.out (by omega)
              have ev2 := (Value.slice.inj ev).1
              clear ev
              subst ev2
              have hvb : wr.heap.size ≤ vb := own_ge hown.out vb rfl
              have hcu : w1.drew.cell? ⟨vb, K', none⟩ = some (str bb) := by
                have h1 := World.ownsRow.cells hown.out rfl K' (str bb) (by unfold svs; rw [List.getElem?_map, hbb]; rfl)
                rw [addr_add_at, Nat.zero_add] at h1
                exact h1
              have hDd := hD1.out.drew
              obtain ⟨lb, lbc, el, hcell⟩ := hDd.lat (k := k) (by show _ < (cutLK r picks k).length; rw [hcl.out]; omega)
              have el2 := (Value.slice.inj el).1
              clear el
              subst el2
              have hN2 : N = (cutLK r picks k).length := (hcl.out k).symm
              have hfz : w1.drew.frozen? ⟨lb, k, none⟩ = false := by
                have h1 := hDd.row
                have hN3 : (⟨cutLK r picks k, r.wait, r.off, r.armed, r.picks, r.done⟩ : Rf).l.length = N := hN2.symm
                rw [hN3] at h1
                exact World.ownsRow.frozenAt h1 _
              have hDn := Lib.hid (hDd.setL hN2 k bb)
              have hlv : vb ≠ lb := by
                have h2 := hlw.out lb rfl
                omega
              have hcu2 : Hid ((w1.drew.setCell ⟨lb, k, none⟩ (str bb)).cell? ⟨vb, K', none⟩ = some (str bb)) := by
                show _ = _
                rw [World.cell?_of_block (w := w1.drew) (Below.heap_setCell _ _ _ _ hlv)]
                exact hcu
              have hc0 := Lib.hid hDd.c0
              have hc02 := Lib.hid hDn.out.c0
              have hSl : S lb := (hs0.out lb).2 (.inr (.inl rfl))
              have hCc := Lib.hid (hC1.out.drew.at_ (g := lb) (i := k) hSl (str bb))
              have hcuh := Lib.hid hcu
              simp only at hDn hcell hst
              clear hcu hDd hN2 hC1 hD1 hSl hlv hvb hown hf1 hbb hcb hlw
              rw [hst.out] at hDn
              generalize (cutLK r picks k).getD k [] = ob at *
              unfold str at *
              have hmw2 : IntKind.i64.wrap (K' : Int) = (K' : Int) := by rw [IntKind.wrap_i64]; omega
              have hmlt : (K' : Int) < (vs.length : Int) := by omega
              go_wp2_with fail
              refine wp_mixs (fun W => W.cell? ⟨g, 0, none⟩ = some (.slice (some ⟨lb, 0, none⟩) N lc) ∧ W.cell? ⟨vb, K', none⟩ = some (.string ⟨bb.toArray⟩)) [11] (by kernel_rfl) (by kernel_rfl) (by kernel_rfl) (by decide) ⟨hc0.out, hcuh.out⟩ ?_
              iterate 11 ((refine mixsq rfl rfl 0 (by decide +kernel) ?_ (fun w' hw' => Or.inl ?_) (fun K hK => ?_)); rotate_left; (focus (obtain ⟨q0, q1⟩ := hw'; go_simp; rfl)); go_simp; refine hK _ ?_; clear hK K)
              refine mixsl rfl rfl (fun K hK => ?_)
              go_simp
              refine hK (fun _ => True) _ _ (fun _ => ⟨trivial, fun _ => ⟨hc02.out, hcu2.out⟩⟩) ?_
              clear hK K
              refine mixs_nil ?_
              clear hc0 hc02 hcuh hcu2 hfz hcell hst
              go_wp2
              go_roundw
              case rel => exact ⟨k + 1, by omega, by go_num, by first | (rw [hidx.out]; done) | (rw [hidx.out]; go_num), hDn, hCc⟩
              case measure => simp [RowKit.intOf]; omega
          · have hskip : Hid (cutBR r picks k = r.l.getD k []) := by
              show _ = _
              rw [hcb.out, show picks.getD j 0 = 0 by rw [List.getD_eq_getElem?_getD, List.getElem?_eq_none (by omega)]; rfl]
              unfold pickB
              rw [Int.zero_emod]
              rfl
            clear hcb hlw
            generalize vs.length = m at *
            have hn1 : Hid (cutLK r picks (k + 1) = cutLK r picks k) := cutLK_skip r picks hskip.out
            have hD2 : Hid (RDsk w1 g (.slice lA N lc) vw vp ⟨cutLK r picks (k + 1), r.wait, r.off, r.armed, r.picks, r.done⟩) := by
              rw [hn1.out]
              exact hD1.out
            clear hskip hn1 hD1 hown
            go_wp2
            go_roundw
            case rel => exact ⟨k + 1, by omega, by go_num, by first | (rw [hidx.out]; done) | (rw [hidx.out]; go_num), hD2, hC1⟩
            case measure => simp [RowKit.intOf]; omega
      · obtain rfl : k = N := by omega
        rw [hfn.out] at hD
        have hSg : S g := (hs0.out g).2 (.inl rfl)
        have hc : Chg (fun k => k = g) wr (((wr.setCell ⟨g, 1, none⟩ (.slice none 0 0)).setCell ⟨g, 2, none⟩ (.bool true)).setCell ⟨g, 3, none⟩ (.int .i64 0)) := (((Chg.refl (fun k => k = g) wr).at_ rfl _).at_ rfl _).at_ rfl _
        have hfin : Hid (WroteR w S g ⟨(List.range r.l.length).map (cutBR r picks), [], true, 0, r.picks, r.done⟩ (((wr.setCell ⟨g, 1, none⟩ (.slice none 0 0)).setCell ⟨g, 2, none⟩ (.bool true)).setCell ⟨g, 3, none⟩ (.int .i64 0))) := by
          rw [← hN'.out]
          have hD1 : RDsk (((wr.setCell ⟨g, 1, none⟩ (.slice none 0 0)).setCell ⟨g, 2, none⟩ (.bool true)).setCell ⟨g, 3, none⟩ (.int .i64 0)) g (.slice lA k lc) (.slice none 0 0) vp ⟨(List.range k).map (cutBR r picks), [], true, 0, r.picks, r.done⟩ :=
            { blk := ((hD.out.blk.set_ 1 _).set_ 2 _).set_ 3 _
              row := own_chgs hD.out.row hc fun j hj e => by
                subst e
                obtain ⟨cs, hk⟩ := own_kind hD.out.row hj
                exact absurd rfl (hk.ne_ hD.out.blk (by decide))
              wt := World.ownsRow_nil _ _ _ _
              pick := hD.out.pick_g hc }
          refine ⟨footR g (.slice lA k lc) (.slice none 0 0), ⟨_, _, _, hD1, fun _ => Iff.rfl⟩, ((hC.out.at_ hSg _).at_ hSg _).at_ hSg _, fun j hj => .inl ?_⟩
          rcases hj with rfl | hj | hj
          · exact hSg
          · exact (hs0.out j).2 (.inr (.inl hj))
          · simp [Value.ownBlock] at hj
        have f1 := hD.out.blk.frozen 1
        have f2 := hD.out.blk.frozen 2
        have f3 := hD.out.blk.frozen 3
        have c1 := hD.out.c1
        have c2 := hD.out.c2
        have c3 := hD.out.c3
        clear hc hD hC hs0 hcl hfn hSg
        go_wp2
        go_end0
        exact ⟨rfl, hfin.out⟩
  · have e : cutR r picks = r := by unfold cutR; rw [if_pos ho]
    rw [e]
    rw [ho] at c2
    clear h hs e ho hx
    go_enter Try.func40, Try.ntmps40
    go_wp2
    exact bodyPost_ret (results_none rfl _ _ _) rfl ⟨rfl, hW0.out⟩
end Go.Proofs.Ytjldjfipacagdaa
