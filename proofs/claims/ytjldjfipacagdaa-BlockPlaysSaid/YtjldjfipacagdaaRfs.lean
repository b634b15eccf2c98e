/- The document's disk: Sync. -/
import Derived.Test.YtjldjfipacagdaaRfb
namespace Go.Proofs.Ytjldjfipacagdaa
open Go.RowKit
theorem RDsk.setL {w : World} {g b c N : Nat} {vw vp : Value} {r : Rf} (h : RDsk w g (.slice (some ⟨b, 0, none⟩) N c) vw vp r) (hN : N = r.l.length) (i : Nat) (x : List UInt8) :
    RDsk (w.setCell ⟨b, i, none⟩ (str x)) g (.slice (some ⟨b, 0, none⟩) N c) vw vp ⟨r.l.set i x, r.wait, r.off, r.armed, r.picks, r.done⟩ where
  blk := h.blk.far (fun e => by
    obtain ⟨cs, hk⟩ := own_kind h.row rfl
    have e : g = b := e
    subst e
    exact absurd rfl (hk.ne_ h.blk (by decide))) _
  row := by
    subst hN
    have h1 := (World.ownsRow.stored h.row i (str x)).1
    have e : (svs r.l).set i (str x) = svs (r.l.set i x) := by unfold svs; rw [List.map_set]
    rw [e] at h1
    show World.ownsRow _ _ _ _ _ (r.l.set i x).length _
    rw [List.length_set]
    exact h1
  wt := own_chgs h.wt (chg_set ⟨b, i, none⟩ _) fun j hj e => by
    obtain ⟨cs, hk⟩ := own_kind h.row (k := b) rfl
    obtain ⟨cs', hk'⟩ := own_kind h.wt hj
    have e : j = b := e
    subst e
    exact absurd rfl (hk.ne_ hk' (by decide))
  pick := h.pick.chg (chg_set ⟨b, i, none⟩ _) fun k cs' hk' e => by
    obtain ⟨cs, hk⟩ := own_kind h.row (k := b) rfl
    have e : k = b := e
    subst e
    exact absurd rfl (hk.ne_ hk' (by decide))
def CSy (g lb N lc b L c k : Nat) (m : Nat) (bs : List UInt8) (W : World) : Prop :=
  W.cell? ⟨g, 0, none⟩ = some (.slice (some ⟨lb, 0, none⟩) N lc) ∧ W.cell? ⟨g, 1, none⟩ = some (.slice (some ⟨b, 0, none⟩) L c) ∧ W.cell? ⟨b, k * 2, none⟩ = some (.int .i64 (m : Int)) ∧ W.cell? ⟨b, k * 2 + 1, none⟩ = some (.string ⟨bs.toArray⟩)
theorem CSy.of {W : World} {g lb N lc b L c k : Nat} {vp : Value} {r : Rf} (h : RDsk W g (.slice (some ⟨lb, 0, none⟩) N lc) (.slice (some ⟨b, 0, none⟩) L c) vp r) (hk : k < r.wait.length) : CSy g lb N lc b L c k r.wait[k].1 r.wait[k].2 W := by
  obtain ⟨b', c', e, h1, h2⟩ := h.at_ hk
  injection e with e _ _
  injection e with e
  injection e with e
  subst e
  exact ⟨h.c0, h.c1, h1, h2⟩
theorem RDsk.drew {w : World} {g : Nat} {vl vw vp : Value} {r : Rf} (h : RDsk w g vl vw vp r) : RDsk w.drew g vl vw vp r := h.below (by exact ⟨rfl, rfl, rfl, Nat.le_refl _, fun _ _ => rfl⟩)
set_option maxRecDepth 10000 in
set_option maxHeartbeats 4000000 in
theorem RSync_calls (w : World) (g : Nat) (r : Rf) (S : Nat → Prop) (h : RO w g r S) (hw : r.wait.length ≤ 1000000) (hN : r.l.length ≤ 16384) (hlo : ∀ v ∈ r.wait, v.1 < r.l.length) :
    Calls Try.prog 38 #[.pointer (some ⟨g, 0, none⟩)] w fun e w' => e = .returned (.int .i64 (syncR r).1) ∧ WroteR w S g (syncR r).2 w' := by
  have hW0 := Lib.hid (WroteR.refl h)
  obtain ⟨vl, vw, vp, h, hs⟩ := h
  have c2 := h.c2
  cases ho : r.off
  · have e : syncR r = (0, ⟨setAll r.l r.wait, [], r.off, r.armed, r.picks, r.done⟩) := by unfold syncR; rw [if_neg (by simp [ho])]
    rw [e]
    rw [ho] at c2
    have h0 := Lib.hid h
    have hlo0 := Lib.hid hlo
    have hs0 := Lib.hid hs
    obtain ⟨lA, lc, rfl⟩ := own_shape h.row
    obtain ⟨wA, wc, rfl⟩ := own_shape h.wt
    have hst := Lib.hid (fun k (hk : k < r.wait.length) => setAll_take r.l r.wait hk)
    have hfn : Hid (setAll r.l (r.wait.take r.wait.length) = setAll r.l r.wait) := by show _ = _; rw [List.take_length]
    have hsl : Hid (∀ k, (setAll r.l (r.wait.take k)).length = r.l.length) := fun k => setAll_len _ _
    have hz : Hid (RDsk w g (.slice lA r.l.length lc) (.slice wA r.wait.length wc) vp ⟨setAll r.l (r.wait.take 0), r.wait, r.off, r.armed, r.picks, r.done⟩) := h
    obtain ⟨N, hN'⟩ : ∃ N, Hid (N = r.l.length) := ⟨_, rfl⟩
    obtain ⟨L, hL'⟩ : ∃ L, Hid (L = r.wait.length) := ⟨_, rfl⟩
    rw [← hN'.out] at hN h0 hlo0 hsl hz hs0
    rw [← hL'.out] at hw h0 hfn hz hs0
    clear h hs hlo e hW0 h0
    go_enter Try.func38, Try.ntmps38
    go_wp2
    go_loopw [3] (fun i wr => ∃ k : Nat, k ≤ L ∧ i = .int .i64 (k : Int) ∧ Hid (RDsk wr g (.slice lA N lc) (.slice wA L wc) vp ⟨setAll r.l (r.wait.take k), r.wait, r.off, r.armed, r.picks, r.done⟩) ∧ Hid (Chg S w wr)) (fun i _ => L - (RowKit.intOf i).toNat)
    case atStart => exact ⟨0, Nat.zero_le _, rfl, hz, Chg.refl _ _⟩
    case round =>
      obtain ⟨k, hk, rfl, hD, hC⟩ := hrel
      have c1 := hD.out.c1
      clear c2
      by_cases hlt : k < L
      · have hkr : k < r.wait.length := by have := hL'.out; omega
        have hst := Lib.hid (hst.out k hkr)
        have hm : r.wait[k].1 < N := hlo0.out _ (List.getElem_mem hkr)
        have hDd := hD.out.drew
        obtain ⟨b, bc, eb, _, _⟩ := hDd.at_ (k := k) hkr
        obtain ⟨lb, lbc, el, hcell⟩ := hDd.lat (k := r.wait[k].1) (by show _ < (setAll r.l (r.wait.take k)).length; rw [hsl.out]; exact hm)
        have eb2 := (Value.slice.inj eb).1
        have el2 := (Value.slice.inj el).1
        clear eb el
        subst eb2
        subst el2
        have hN2 : N = (setAll r.l (r.wait.take k)).length := (hsl.out k).symm
        have hfz : wr.drew.frozen? ⟨lb, r.wait[k].1, none⟩ = false := by
          have h1 := hDd.row
          have hN3 : (⟨setAll r.l (r.wait.take k), r.wait, r.off, r.armed, r.picks, r.done⟩ : Rf).l.length = N := hN2.symm
          rw [hN3] at h1
          exact World.ownsRow.frozenAt h1 _
        have hDn := Lib.hid (hDd.setL hN2 r.wait[k].1 r.wait[k].2)
        have hCy := CSy.of (k := k) hDd hkr
        have hCn := CSy.of (k := k) hDn.out hkr
        have hCyh := Lib.hid hCy
        have hCnh := Lib.hid hCn
        have hSl : S lb := (hs0.out lb).2 (.inr (.inl rfl))
        have hCc := Lib.hid ((hC.out.drew).at_ (g := lb) (i := r.wait[k].1) hSl (str r.wait[k].2))
        simp only at hCyh hCnh hDn hcell
        generalize r.wait[k].1 = m at *
        generalize r.wait[k].2 = bs at *
        clear hCy hCn hDd hN2 hC hD hlo0 hsl hz hs0 hSl
        generalize (setAll r.l (r.wait.take k)).getD m [] = ob at *
        unfold str at *
        go_wp2_with fail
        refine wp_mixs (CSy g lb N lc b L wc k m bs) [21] (by kernel_rfl) (by kernel_rfl) (by kernel_rfl) (by decide) hCyh.out ?_
        iterate 21 ((refine mixsq rfl rfl 0 (by decide +kernel) ?_ (fun w' hw' => Or.inl ?_) (fun K hK => ?_)); rotate_left; (focus (obtain ⟨q0, q1, q2, q3⟩ := hw'; go_simp; rfl)); go_simp; refine hK _ ?_; clear hK K)
        refine mixsl rfl rfl (fun K hK => ?_)
        go_simp
        refine hK (fun _ => True) _ _ (fun _ => ⟨trivial, fun _ => hCnh.out⟩) ?_
        clear hK K
        refine mixs_nil ?_
        clear hCyh hCnh hfz hcell
        have hDn2 : Hid (RDsk (wr.drew.setCell ⟨lb, m, none⟩ (.string ⟨bs.toArray⟩)) g (.slice (some ⟨lb, 0, none⟩) N lc) (.slice (some ⟨b, 0, none⟩) L wc) vp ⟨setAll r.l (r.wait.take (k + 1)), r.wait, r.off, r.armed, r.picks, r.done⟩) := by
          rw [hst.out]
          exact hDn.out
        clear hDn hst
        go_wp2
        go_roundw
        case rel => exact ⟨k + 1, by omega, by go_num, hDn2, hCc⟩
        case measure => simp [RowKit.intOf]; omega
      · obtain rfl : k = L := by omega
        rw [hfn.out] at hD
        have hc : Chg (fun k => k = g) wr (wr.setCell ⟨g, 1, none⟩ (.slice none 0 0)) := (Chg.refl (fun k => k = g) wr).at_ rfl _
        have hfin : Hid (WroteR w S g ⟨setAll r.l r.wait, [], r.off, r.armed, r.picks, r.done⟩ (wr.setCell ⟨g, 1, none⟩ (.slice none 0 0))) := by
          have hD1 : RDsk (wr.setCell ⟨g, 1, none⟩ (.slice none 0 0)) g (.slice lA N lc) (.slice none 0 0) vp ⟨setAll r.l r.wait, [], r.off, r.armed, r.picks, r.done⟩ :=
            { blk := hD.out.blk.set_ 1 _
              row := own_chgs hD.out.row hc fun j hj e => by
                subst e
                obtain ⟨cs, hk⟩ := own_kind hD.out.row hj
                exact absurd rfl (hk.ne_ hD.out.blk (by decide))
              wt := World.ownsRow_nil _ _ _ _
              pick := hD.out.pick_g hc }
          have hSg : S g := (hs0.out g).2 (.inl rfl)
          refine ⟨footR g (.slice lA N lc) (.slice none 0 0), ⟨_, _, _, hD1, fun _ => Iff.rfl⟩, hC.out.at_ hSg _, fun j hj => .inl ?_⟩
          rcases hj with rfl | hj | hj
          · exact hSg
          · exact (hs0.out j).2 (.inr (.inl hj))
          · simp [Value.ownBlock] at hj
        have f1 := hD.out.blk.frozen 1
        clear hc hD hC hs0 hlo0 hz hsl hst hfn
        go_wp2
        go_ret
        exact ⟨rfl, hfin.out⟩
  · have e : syncR r = (6, r) := by unfold syncR; rw [if_pos ho]
    rw [e]
    rw [ho] at c2
    clear h hs e ho
    go_enter Try.func38, Try.ntmps38
    go_wp2
    go_ret
    exact ⟨rfl, hW0.out⟩
end Go.Proofs.Ytjldjfipacagdaa
