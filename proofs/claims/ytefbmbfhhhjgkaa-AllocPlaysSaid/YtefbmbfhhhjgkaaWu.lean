/- The log: whether a transaction fits; one map into another. -/
import Derived.Test.YtefbmbfhhhjgkaaWt
namespace Go.Proofs.Ytefbmbfhhhjgkaa
open Go.RowKit
variable {F : Nat → Prop}
theorem filter_one {l : List Nat} (hn : l.Nodup) {k : Nat} (hk : k ∈ l) {p p' : Nat → Bool} (h0 : p k = false) (h : ∀ j, j ≠ k → p' j = p j) : (l.filter p').length = (l.filter p).length + if p' k = true then 1 else 0 := by
  induction l with
  | nil => cases hk
  | cons a r ih =>
    rw [List.nodup_cons] at hn
    rcases List.mem_cons.1 hk with rfl | hk
    · have e : r.filter p' = r.filter p := List.filter_congr fun j hj => h j fun e => hn.1 (e ▸ hj)
      rw [List.filter_cons, List.filter_cons, e, h0]
      split
      · simp [*]
      · simp [*]
    · have hne : a ≠ k := fun e => hn.1 (e ▸ hk)
      have := ih hn.2 hk
      rw [List.filter_cons, List.filter_cons, h a hne]
      split
      · rw [List.length_cons, List.length_cons, this]; omega
      · exact this
theorem ksW_nodup (N : Nat) (f : Nat → Option (List UInt8)) : (ksW N f).Nodup := List.Pairwise.filter _ List.nodup_range
def fitsP (N : Nat) (x : Lk) (t : Tk) : Bool := decide ((ksW N x.wt).length + ((ksW N t.m).filter fun k => !(x.wt k).isSome).length ≤ 63)
set_option maxRecDepth 10000 in
set_option maxHeartbeats 8000000 in
theorem fits_calls (w : World) {gl g gt N : Nat} {x : Lk} {t : Tk} {S ST FT : Nat → Prop} (h : LO w gl g x S F) (ht : TX w gt gl N t ST FT) (hxl : x.d.l.length = N + 65) (hN : N ≤ 16384) :
    Calls Try.prog 47 #[.pointer (some ⟨gt, 0, none⟩)] w fun e w' => e = .returned (.bool (fitsP N x t)) ∧ Below w.heap.size w w' := by
  obtain ⟨mb, mx, Sd, hL, hs⟩ := h
  obtain ⟨mt, mf, h1, h2, h3⟩ := ht
  have hmp : MBv F w mb N mx x.wt := by have := hL.mp; rwa [hxl, Nat.add_sub_cancel] at this
  have a0 : w.cell? ⟨gt, 0, none⟩ = some (.pointer (some ⟨gl, 0, none⟩)) := h1.blk.cell 0
  have a1 : w.cell? ⟨gt, 1, none⟩ = some (.map (some mt)) := h1.blk.cell 1
  have b0 : w.cell? ⟨gl, 0, none⟩ = some (.pointer (some ⟨g, 0, none⟩)) := hL.blk.cell 0
  have b1 : w.cell? ⟨gl, 1, none⟩ = some (.map (some mb)) := hL.blk.cell 1
  have hln := fun ty => hmp.run_len ty
  have hcells : Hid (∀ W, Below w.heap.size w W → W.cell? ⟨gt, 0, none⟩ = some (.pointer (some ⟨gl, 0, none⟩)) ∧ W.cell? ⟨gt, 1, none⟩ = some (.map (some mt)) ∧ W.cell? ⟨gl, 0, none⟩ = some (.pointer (some ⟨g, 0, none⟩)) ∧ W.cell? ⟨gl, 1, none⟩ = some (.map (some mb)) ∧ MBv F W mb N mx x.wt) := fun W hW => by
    have c1 := h1.blk.chg (Chg.of_below hW) (S := fun _ => False) id
    have c2 := hL.blk.chg (Chg.of_below hW) (S := fun _ => False) id
    exact ⟨c1.cell 0, c1.cell 1, c2.cell 0, c2.cell 1, hmp.below hW⟩
  have hmap := h1.mp.im
  have hnod := Lib.hid (ksW_nodup N t.m)
  have hmem : Hid (∀ k v, mf k = some v → k < N → k ∈ ksW N t.m) := fun k v hv hk => mem_ksW.2 ⟨hk, by rw [← h1.mp.some_iff, hv]; rfl⟩
  have hend : Hid (∀ lf : Nat → Bool, (∀ k, lf k = false) → ((ksW N t.m).filter fun k => !lf k && !(x.wt k).isSome).length = ((ksW N t.m).filter fun k => !(x.wt k).isSome).length) := fun lf hl => by
    congr 1
    exact List.filter_congr fun k _ => by rw [hl k]; rfl
  have hst : Hid (((ksW N t.m).filter fun k => !(mf k).isSome && !(x.wt k).isSome).length = 0) := by
    show _ = _
    rw [List.length_eq_zero_iff, List.filter_eq_nil_iff]
    intro k hk
    rw [h1.mp.some_iff, (mem_ksW.1 hk).2]
    simp
  have hq1 : Hid ((ksW N x.wt).length ≤ N) := Nat.le_trans (List.length_filter_le _ _) (by simp)
  have hq2 : Hid (∀ p : Nat → Bool, ((ksW N t.m).filter p).length ≤ N) := fun p => Nat.le_trans (List.length_filter_le _ _) (Nat.le_trans (List.length_filter_le _ _) (by simp))
  obtain ⟨R, hR⟩ : ∃ R, Hid (fitsP N x t = R) := ⟨_, Lib.hid rfl⟩
  have hRd : Hid (R = decide ((ksW N x.wt).length + ((ksW N t.m).filter fun k => !(x.wt k).isSome).length ≤ 63)) := hR.out.symm
  rw [hR.out]
  obtain ⟨q, hq⟩ : ∃ q, Hid ((ksW N x.wt).length = q) := ⟨_, Lib.hid rfl⟩
  rw [hq.out] at hln hRd hq1
  clear hL hs h1 h2 h3 hmp hR
  go_enter Try.func47, Try.ntmps47
  go_wp2_with (at_range; refine wpList_im_range rfl rfl Try.underlying3 Try.underlying72 hmap rfl ?_; intro w0 cnt hr hg0 hs0)
  try go_frame
  have hB0 : Hid (Below w.heap.size w w0) := (Below.refl _ _).grown hg0 (Nat.le_refl _) (fun j hj => by cases hj)
  obtain ⟨r, hr0⟩ : ∃ r, Hid (r = w.heap.size) := ⟨_, Lib.hid rfl⟩
  rw [← hr0.out] at hr ⊢
  have hr1 := Lib.hid hr
  clear hg0 hs0 a0 a1 b0 b1 hln hmap hr
  go_loopw [3] (fun o wr => ∃ (m : Nat) (lf : Nat → Bool) (cnt : Nat), o = .int .i64 ((q + m : Nat) : Int) ∧ Hid (m = ((ksW N t.m).filter fun k => !lf k && !(x.wt k).isSome).length) ∧ Hid (IR Try.prog 3 wr mt r N mf lf cnt) ∧ Hid (Below w.heap.size w wr)) (fun _ wr => wr.rangeLeft mt r)
  case atStart => exact ⟨0, _, cnt, by rw [Nat.add_zero], hst.out.symm, hr1, hB0⟩
  case round =>
    obtain ⟨m, lf, cnt, rfl, hm, hr, hB⟩ := hrel
    clear hr1 hB0 hst
    have hmN : m ≤ N := by rw [hm.out]; exact hq2.out _
    have hqN := hq1.out
    go_wp2_with (at_next; refine wpList_ir_next rfl rfl Try.underlying3 hr.out rfl ?_ ?_)
    · intro _ hl
      have hR2 : Hid (R = decide (q + m ≤ 63)) := by
        show _ = _
        rw [hRd.out, hm.out, hend.out lf hl]
      by_cases hle : q + m ≤ 63
      · rw [decide_eq_true hle] at hR2
        have hle' : ((q + m : Nat) : Int) ≤ 63 := by omega
        clear hr hm
        go_wp2
        go_ret
        exact ⟨by rw [hR2.out]; simp; omega, hB.out⟩
      · rw [decide_eq_false hle] at hR2
        have hle' : ¬ ((q + m : Nat) : Int) ≤ 63 := by omega
        clear hr hm
        go_wp2
        go_ret
        exact ⟨by rw [hR2.out]; simp; omega, hB.out⟩
    · intro k v w1 cnt1 hk hlk hvk hr1 hlt hg1 hs1 hen
      have hB1 : Below w.heap.size w w1 := hB.out.grown hg1 hB.out.size (fun j hj => by cases hj; exact Nat.le_of_eq hr0.out.symm)
      obtain ⟨a0, a1, b0, b1, hmp⟩ := hcells.out w1 hB1
      have hstep := filter_one hnod.out (hmem.out k v hvk hk) (p := fun j => !lf j && !(x.wt j).isSome) (p' := fun j => !(lf j && !(j == k)) && !(x.wt j).isSome) (by simp [hlk]) (fun j hj => by
        have : (j == k) = false := beq_eq_false_iff_ne.2 hj
        simp [this])
      have hz := zero_slB w1
      have him := hmp.im
      have hr2 := Lib.hid hr1
      have hle0 := Lib.hid (show cnt1 < cnt from hlt)
      have hclq := Lib.hid hr.out.left_eq
      have hB1 := Lib.hid hB1
      have hk64 : k < 9223372036854775808 := by omega
      have hsi := hmp.some_iff k
      have hstep2 : Hid (((ksW N t.m).filter fun j => !(lf j && !(j == k)) && !(x.wt j).isSome).length = m + if (!(lf k && !(k == k)) && !(x.wt k).isSome) = true then 1 else 0) := by
        show _ = _
        rw [hstep, hm.out]
      have hmN2 : Hid (m + (if (!(lf k && !(k == k)) && !(x.wt k).isSome) = true then 1 else 0) ≤ N) := by show _ ≤ _; rw [← hstep2.out]; exact hq2.out _
      clear hr1 hlt hg1 hs1 hr hB hm hvk hstep
      cases hx : (x.wt k).isSome with
      | true =>
        rw [hx] at hsi hstep2 hmN2
        have hlkk : ∃ v, Hid ((mx k).getD (.slice none 0 0) = v ∧ (mx k).isSome = true) := ⟨_, rfl, hsi⟩
        obtain ⟨v2, hlkk⟩ := hlkk
        have hm2 : Hid (m = ((ksW N t.m).filter fun j => !(lf j && !(j == k)) && !(x.wt j).isSome).length) := by
          show _ = _
          rw [hstep2.out]
          simp
        clear hx hsi hstep2 hmN2 hmp
        go_wp2_with (at_lookup; refine wpList_im_lookup_ok rfl rfl Try.underlying3 Try.underlying72 hz him rfl (k := k) rfl hk64 hlkk ?_)
        clear hen
        go_roundw
        case rel => exact ⟨m, _, cnt1, rfl, hm2, hr2, hB1⟩
        case measure => rw [hr2.out.left_eq, hclq.out]; exact hle0.out
      | false =>
        rw [hx] at hsi hstep2 hmN2
        have hlkk : ∃ v, Hid ((mx k).getD (.slice none 0 0) = v ∧ (mx k).isSome = false) := ⟨_, rfl, hsi⟩
        obtain ⟨v2, hlkk⟩ := hlkk
        have hm2 : Hid (m + 1 = ((ksW N t.m).filter fun j => !(lf j && !(j == k)) && !(x.wt j).isSome).length) := by
          show _ = _
          rw [hstep2.out]
          simp
        clear hx hsi hstep2 hmN2 hmp
        go_wp2_with (at_lookup; refine wpList_im_lookup_ok rfl rfl Try.underlying3 Try.underlying72 hz him rfl (k := k) rfl hk64 hlkk ?_)
        clear hen
        go_roundw
        case rel => exact ⟨m + 1, _, cnt1, by go_num, hm2, hr2, hB1⟩
        case measure => rw [hr2.out.left_eq, hclq.out]; exact hle0.out
def mergeF {α : Type} (f1 f2 : Nat → Option α) : Nat → Option α := fun k => match f2 k with
  | some b => some b
  | none => f1 k
set_option maxRecDepth 10000 in
set_option maxHeartbeats 8000000 in
theorem Copy_calls (w : World) {mb mt N : Nat} {f1 f2 : Nat → Option Value} (h1 : IM Try.prog 3 w mb N f1) (h2 : IM Try.prog 3 w mt N f2) (hne : mb ≠ mt) (hN : N ≤ 16384) :
    Calls Try.prog 48 #[.map (some mb), .map (some mt)] w fun e w' => e = .returned (.tuple #[]) ∧ IM Try.prog 3 w' mb N (mergeF f1 f2) ∧ Chg (fun k => k = mb) w w' := by
  have h1h := Lib.hid h1
  have hlt := Lib.hid h1.lt
  go_enter Try.func48, Try.ntmps48
  go_wp2_with (at_range; refine wpList_im_range rfl rfl Try.underlying3 Try.underlying72 h2 rfl ?_; intro w0 cnt hr hg0 hs0)
  try go_frame
  obtain ⟨r, hr0⟩ : ∃ r, Hid (r = w.heap.size) := ⟨_, Lib.hid rfl⟩
  rw [← hr0.out] at hr ⊢
  have hr1 := Lib.hid hr
  have hi0 : Hid (IM Try.prog 3 w0 mb N fun k => if (f2 k).isSome = true ∧ (f2 k).isSome = false then f2 k else f1 k) := by
    have h := h1.grown hg0 (by simp)
    refine h.ext fun k => ?_
    rw [if_neg]
    rintro ⟨a, b⟩
    rw [a] at b
    cases b
  have hc0 : Hid (Chg (fun k => k = mb) w w0) := (Chg.refl _ w).grown hg0 (fun k hk _ => by cases hk)
  clear hg0 hs0 hr h1 h2
  go_loopw [] (fun wr => ∃ (lf : Nat → Bool) (cnt : Nat), Hid (IR Try.prog 3 wr mt r N f2 lf cnt) ∧ Hid (IM Try.prog 3 wr mb N fun k => if (f2 k).isSome = true ∧ lf k = false then f2 k else f1 k) ∧ Hid (Chg (fun k => k = mb) w wr)) (fun wr => wr.rangeLeft mt r)
  case atStart => exact ⟨_, cnt, hr1, hi0, hc0⟩
  case round =>
    obtain ⟨lf, cnt, hr, hi, hc⟩ := hrel
    clear hr1 hi0 hc0
    go_wp2_with (at_next; refine wpList_ir_next rfl rfl Try.underlying3 hr.out rfl ?_ ?_)
    · intro _ hl
      have hfin : Hid (IM Try.prog 3 wr mb N (mergeF f1 f2)) := by
        refine hi.out.ext fun k => ?_
        unfold mergeF
        rw [hl k]
        cases f2 k <;> simp
      clear hr hi
      go_wp2
      go_end0
      exact ⟨rfl, hfin.out, hc.out⟩
    · intro k v w1 cnt1 hk hlk hvk hr1 hlt1 hg1 hs1 hen
      have hrne : mb ≠ r := fun e => by have := hlt.out; have := hr0.out; omega
      have hi1 := hi.out.grown hg1 (by intro e; injection e with e; exact hrne e)
      have hc1 : Hid (Chg (fun k => k = mb) w w1) := hc.out.grown hg1 (fun j hj hjl => by cases hj; have := hr0.out; omega)
      have hr2 := Lib.hid hr1
      have hle0 := Lib.hid (show cnt1 < cnt from hlt1)
      have hclq := Lib.hid hr.out.left_eq
      have hkN := Lib.hid hk
      have hvkh := Lib.hid hvk
      have hlkh := Lib.hid hlk
      have hrneh := Lib.hid hrne
      have hNN : N < 9223372036854775807 := by omega
      clear hr1 hlt1 hg1 hs1 hr hi hc hvk hlk hrne
      go_wp2_with (at_mapUpdate; refine wpList_im_update rfl rfl Try.underlying3 Try.underlying72 hi1 rfl rfl hNN hkN.out rfl ?_; intro w2 hi2 ht2)
      have hr3 : Hid (IR Try.prog 3 w2 mt r N f2 (fun j => lf j && !(j == k)) cnt1) := hr2.out.chg (Chg.turned ht2 rfl : Chg (fun j => j = mb) w1 w2) (fun e => hne e.symm) (fun e => hrneh.out e.symm)
      have hc2 : Hid (Chg (fun k => k = mb) w w2) := hc1.out.then_ (Chg.turned ht2 rfl : Chg (fun j => j = mb) w1 w2) (fun _ _ h => h)
      have hi3 : Hid (IM Try.prog 3 w2 mb N fun j => if (f2 j).isSome = true ∧ (lf j && !(j == k)) = false then f2 j else f1 j) := by
        refine hi2.ext fun j => ?_
        by_cases e : j = k
        · subst e
          rw [if_pos (by rw [hvkh.out]; simp), if_pos rfl, hvkh.out]
          rfl
        · have : (j == k) = false := beq_eq_false_iff_ne.2 e
          rw [if_neg e]
          simp [this]
      clear hi1 hi2 ht2 hc1 hr2 hen
      go_frame
      go_wp2
      go_roundw
      case rel => exact ⟨_, cnt1, hr3, hi3, hc2⟩
      case measure => rw [hr3.out.left_eq, hclq.out]; exact hle0.out
end Go.Proofs.Ytefbmbfhhhjgkaa
