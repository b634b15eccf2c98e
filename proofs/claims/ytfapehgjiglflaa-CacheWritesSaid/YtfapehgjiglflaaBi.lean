/- Image. -/
import Derived.Test.YtfapehgjiglflaaBs
namespace Go.Proofs.Ytfapehgjiglflaa
open Go.RowKit
variable {F : Nat → Prop}
theorem SyncOff_callsF (w : World) (g : Nat) (d : Dk) (S : Nat → Prop) (hd : DKF F w g d S) (ho : d.off = true) :
    Calls Try.prog 41 #[.pointer (some ⟨g, 0, none⟩)] w (Ans w (.int .i64 6)) := by
  obtain ⟨gl, cl, mb, pk, lv, mf, hd, hs⟩ := hd
  have c2 : w.cell? ⟨g, 2, none⟩ = some (.bool true) := by have := hd.blk.cell 2; rw [this, ho]; rfl
  clear hd ho
  go_enter Try.func41, Try.ntmps41
  go_wp2
  go_ret
  exact ⟨rfl, rfl⟩
def imgK (d : Dk) (k : Nat) : List UInt8 := (List.range k).flatMap (lastP d)
def imgP (d : Dk) : List UInt8 := imgK d d.l.length
theorem imgK_succ (d : Dk) (k : Nat) : imgK d (k + 1) = imgK d k ++ lastP d k := by
  unfold imgK
  rw [List.range_succ, List.flatMap_append]
  simp
theorem imgK_lenF {w : World} {g : Nat} {d : Dk} {S : Nat → Prop} (hd : DKF F w g d S) : ∀ k, k ≤ d.l.length → (imgK d k).length = k * 512
  | 0, _ => rfl
  | k + 1, h => by rw [imgK_succ, List.length_append, imgK_lenF hd k (by omega), lastP_lenF hd (by omega)]; omega
def ImgOut (w : World) (bs : List UInt8) (e : Ending) (w' : World) : Prop := ∃ r, e = .returned r ∧ RdT (fun _ => True) 5 w' r (bvs bs) ∧ Below w.heap.size w w'
set_option maxRecDepth 10000 in
set_option maxHeartbeats 2000000 in
theorem Image_callsF (w : World) (g : Nat) (d : Dk) (S : Nat → Prop) (hd : DKF F w g d S) (hl : d.l.length ≤ 16384) (hv : waitP d ≤ 1000000000) :
    Calls Try.prog 30 #[.pointer (some ⟨g, 0, none⟩)] w (ImgOut w (imgP d)) := by
  obtain ⟨i0, hi, hz0, hz1, hz2⟩ := info_parts Try.info_u8
  have HL : Hid (∀ wr, Below w.heap.size w wr → ∀ n, n < d.l.length → Calls Try.prog 44 #[.pointer (some ⟨g, 0, none⟩), .int .i64 ((n : Nat) : Int)] wr (DatOut F wr (lastP d n))) := fun wr hB n hn =>
    last_callsF wr g d S (hd.below hB) n hn hl (by
      have hwl : d.wt.length = d.l.length := by obtain ⟨gl, cl, mb, pk, lv, mf, hd, _⟩ := hd; exact hd.wtl
      rw [List.getD_eq_getElem?_getD, List.getElem?_eq_getElem (by omega)]
      exact Nat.le_trans (waitP_le d (List.getElem_mem _)) hv)
  have c0 : ∃ gl cl, w.cell? ⟨g, 0, none⟩ = some (.slice (some ⟨gl, 0, none⟩) d.l.length cl) := by
    obtain ⟨gl, cl, mb, pk, lv, mf, hd, _⟩ := hd
    exact ⟨gl, cl, hd.blk.cell 0⟩
  obtain ⟨gl, cl, c0⟩ := c0
  have hik := Lib.hid (fun k hk => imgK_lenF hd k hk)
  have hll := Lib.hid (fun n (hn : n < d.l.length) => lastP_lenF hd hn)
  have hsu := Lib.hid (imgK_succ d)
  have hfin : Hid (imgK d d.l.length = imgP d) := rfl
  generalize d.l.length = L at *
  clear hd hv
  go_enter Try.func30, Try.ntmps30
  go_wp2
  clear c0
  go_loopw [3, 10] (fun o i wr => ∃ (k : Nat) (A1 : Option Addr) (c1 : Nat), k ≤ L ∧ i = .int .i64 k ∧ o = .slice A1 (k * 512) c1 ∧ Hid (wr.ownsRow 0 5 1 (.slice A1 (k * 512) c1) (k * 512) (bvs (imgK d k))) ∧ Hid (Below w.heap.size w wr) ∧ Hid (∀ j, (Value.slice A1 (k * 512) c1).ownBlock = some j → w.heap.size ≤ j)) (fun _ i _ => L - (RowKit.intOf i).toNat)
  case atStart => exact ⟨0, none, 0, Nat.zero_le _, rfl, rfl, World.ownsRow_nil _ _ _ _, Below.refl _ _, fun j hj => by simp [Value.ownBlock] at hj⟩
  case round =>
    obtain ⟨k, A1, c1, hk, rfl, rfl, hO, hB, hf⟩ := hrel
    by_cases hlt : k < L
    · have HLk := Lib.hid (HL.out wr hB.out k hlt)
      have hlk := Lib.hid (hll.out k hlt)
      have hsk := Lib.hid (hsu.out k)
      generalize lastP d k = bs at *
      go_wp2_with fail
      refine HLk.out.mono ?_
      rintro e w1 ⟨⟨r, rfl, hr⟩, rfl⟩
      have hr1 := Lib.hid hr.1
      clear hr
      go_wp2_with (at_builtin; refine stop_app rfl ?_)
      refine Stop.mk (wpList_app _ rfl rfl (us := bvs bs) (base := 0) Try.underlying31 hi hz0 hz1 hz2 rfl hO.out rfl hr1.out rfl (bvs_one _) ?_ ?_ (Nat.zero_le _) ?_)
      · have := hlk.out; unfold maxLen; rw [bvs_length]; omega
      · have := hlk.out; rw [bvs_length]; omega
      intro v2 w2 hown hg hat
      obtain ⟨N, A2, c2, hN, rfl, hown2⟩ := own_hide hown
      have hN2 : N = (k + 1) * 512 := by rw [hN.out, bvs_length, hlk.out]; omega
      subst hN2
      rw [← bvs_append, ← hsk.out] at hown2
      have hO2 := Lib.hid hown2
      have hB2 : Hid (Below w.heap.size w w2) := hB.out.grown hg hB.out.size (fun j hj => hf.out j hj)
      have hf2 : Hid (∀ j, (Value.slice A2 ((k + 1) * 512) c2).ownBlock = some j → w.heap.size ≤ j) := fun j hj => by
        rcases hat with e | e
        · exact hf.out j (e ▸ hj)
        · rw [e] at hj; cases hj; exact hB.out.size
      clear hown hown2 hg hat hO hB hf hN HLk
      go_wp2
      go_roundw
      case rel => exact ⟨k + 1, A2, c2, by omega, by go_num, rfl, hO2, hB2, hf2⟩
      case measure => simp [RowKit.intOf]; omega
    · obtain rfl : k = L := by omega
      have hkk := hik.out k (Nat.le_refl _)
      have hO8 : Own8 wr (.slice A1 (k * 512) c1) (imgK d k) := by
        unfold Own8
        rw [hkk]
        exact hO.out
      have hC := Lib.hid (Clip8_calls (F := fun _ => True) wr _ (imgK d k) hO8 (fun _ _ => trivial) (by rw [hkk]; omega))
      rw [hfin.out] at hC
      clear hkk hO8 hO
      go_wp2_with fail
      refine hC.out.mono ?_
      rintro e w1 ⟨⟨r, rfl, hr⟩, rfl⟩
      have hr1 := Lib.hid hr
      clear hr
      go_wp2
      go_ret
      exact ⟨r, rfl, hr1.out, hB.out⟩
end Go.Proofs.Ytfapehgjiglflaa
