/- Sync. -/
import Derived.Test.YtefbmbfhhhjgkaaBw
namespace Go.Proofs.Ytefbmbfhhhjgkaa
open Go.RowKit
variable {F : Nat → Prop}
def syncD (d : Dk) : Dk := ⟨(List.range d.l.length).map (lastP d), List.replicate d.l.length [], d.off, d.wr, d.arm, d.picks⟩
def dL (d : Dk) (lf : Nat → Bool) : Dk := ⟨(List.range d.l.length).map (fun n => if lf n then d.l.getD n [] else lastP d n), (List.range d.l.length).map (fun n => if lf n then d.wt.getD n [] else []), d.off, d.wr, d.arm, d.picks⟩
def mfL (mf : Nat → Option Value) (lf : Nat → Bool) (k : Nat) : Option Value := if lf k then mf k else none
theorem mfL_step (mf : Nat → Option Value) (lf : Nat → Bool) (k : Nat) : (fun j => if j = k then none else mfL mf lf j) = mfL mf (fun j => lf j && !(j == k)) := by
  funext j
  unfold mfL
  by_cases e : j = k
  · subst e; simp
  · have : (j == k) = false := beq_eq_false_iff_ne.2 e
    simp [e, this]
theorem getD_lt {α : Type} {l : List α} {i : Nat} {z : α} (h : i < l.length) : l[i]? = some (l.getD i z) := by
  rw [List.getD_eq_getElem?_getD, List.getElem?_eq_getElem h]
  rfl
theorem map_range_set {α : Type} (N k : Nat) (f g : Nat → α) (x : α) (hx : g k = x) (h : ∀ j, j ≠ k → g j = f j) : ((List.range N).map f).set k x = (List.range N).map g := by
  apply List.ext_getElem?
  intro i
  rcases Nat.lt_or_ge i N with hi | hi
  · rw [List.getElem?_set]
    by_cases e : k = i
    · subst e
      rw [if_pos rfl, if_pos (by simpa using hi)]
      simp [hi, hx]
    · rw [if_neg e]
      simp [hi, h i (fun x => e x.symm)]
  · rw [List.getElem?_eq_none (by simpa using hi), List.getElem?_eq_none (by simpa using hi)]
theorem dL_step (d : Dk) (lf : Nat → Bool) (k : Nat) : (⟨(dL d lf).l.set k (lastP d k), (dL d lf).wt.set k [], d.off, d.wr, d.arm, d.picks⟩ : Dk) = dL d (fun j => lf j && !(j == k)) := by
  unfold dL
  congr 1
  · refine map_range_set _ _ _ _ _ (by simp) (fun j hj => ?_)
    have : (j == k) = false := beq_eq_false_iff_ne.2 hj
    simp [this]
  · refine map_range_set _ _ _ _ _ (by simp) (fun j hj => ?_)
    have : (j == k) = false := beq_eq_false_iff_ne.2 hj
    simp [this]
theorem dL_end (d : Dk) (lf : Nat → Bool) (h : ∀ k, lf k = false) : dL d lf = syncD d := by
  unfold dL syncD
  congr 1
  · exact List.map_congr_left (fun j _ => by simp [h])
  · simp only [h, Bool.false_eq_true, if_false]
    rw [List.map_const', List.length_range]
theorem dL_len (d : Dk) (lf : Nat → Bool) : (dL d lf).l.length = d.l.length := by simp [dL]
theorem list_of_getD {α : Type} (l : List α) (z : α) : (List.range l.length).map (fun n => l.getD n z) = l := by
  apply List.ext_getElem?
  intro i
  rcases Nat.lt_or_ge i l.length with hi | hi
  · simp [hi, List.getElem?_eq_getElem hi]
  · rw [List.getElem?_eq_none (by simpa using hi), List.getElem?_eq_none hi]
theorem dL_start {w : World} {g gl cl mb : Nat} {pk : Value} {lv : List Value} {mf : Nat → Option Value} {d : Dk} (h : Dsk F w g gl cl mb pk lv mf d) : dL d (fun k => (mf k).isSome) = d ∧ mfL mf (fun k => (mf k).isSome) = mf := by
  have hn : ∀ k, k < d.l.length → (mf k).isSome = false → d.wt.getD k [] = [] := fun k hk hf => by
    rw [← h.wtl] at hk
    rcases h.ver k _ (getD_lt hk (z := [])) with ⟨h1, _⟩ | ⟨_, b, c, us, h2, _⟩
    · exact h1
    · rw [h2] at hf; cases hf
  constructor
  · unfold dL
    have e1 : (List.range d.l.length).map (fun n => if (mf n).isSome then d.l.getD n [] else lastP d n) = d.l := by
      rw [List.map_congr_left (g := fun n => d.l.getD n []) (fun n hnn => ?_)]
      · exact list_of_getD _ _
      · cases hf : (mf n).isSome
        · have := hn n (List.mem_range.1 hnn) hf
          show ((d.wt.getD n []).getLast?).getD (d.l.getD n []) = _
          rw [this]
          rfl
        · simp
    have e2 : (List.range d.l.length).map (fun n => if (mf n).isSome then d.wt.getD n [] else []) = d.wt := by
      rw [List.map_congr_left (g := fun n => d.wt.getD n []) (fun n hnn => ?_)]
      · rw [← h.wtl]
        exact list_of_getD _ _
      · cases hf : (mf n).isSome
        · rw [hn n (List.mem_range.1 hnn) hf]
          rfl
        · simp
    rw [e1, e2]
  · funext k
    show (if (mf k).isSome = true then mf k else none) = mf k
    cases mf k <;> rfl
theorem IR.iter_ne {P : Program} {kt : TypeId} {w : World} {b r N cnt : Nat} {f : Nat → Option Value} {lf : Nat → Bool} (h : IR P kt w b r N f lf cnt) {g t : Nat} {cs : Array Value} (hb : Blk w g t cs) : g ≠ r := by
  rintro rfl
  obtain ⟨D, left, ⟨es, clock, since, seen, c0, _, _, _, _, hr, _⟩, _⟩ := h
  unfold Blk at hb
  rw [hb] at hr
  cases hr
theorem Dsk.foot_ne {w : World} {g gl cl mb r N cnt : Nat} {pk : Value} {lv : List Value} {mf f : Nat → Option Value} {d : Dk} {lf : Nat → Bool} (h : Dsk F w g gl cl mb pk lv mf d) (hr : IR Try.prog 3 w mb r N f lf cnt) : ∀ k, foot g gl mb mf k → ¬ k = r := by
  rintro k (rfl | rfl | rfl | ⟨j, v, hj, hv⟩)
  · exact hr.iter_ne h.blk
  · obtain ⟨cs, hc⟩ := own_blk h.row
    exact hr.iter_ne hc
  · exact fun e => hr.ne e.symm
  · obtain ⟨b, c, us, vs, _, _, rfl, ho, _⟩ := h.mfat hj
    obtain ⟨cs, hc⟩ := own_blk ho
    have e : b = k := by simpa [Value.ownBlock] using hv
    subst e
    exact hr.iter_ne hc
theorem chg_grown {w w' : World} {r : Nat} (h : w.grownBy w' (some r)) : Chg (fun k => k = r) w w' := (Chg.refl _ w).grown h (fun k hk _ => by cases hk; rfl)
theorem lf_twice (lf : Nat → Bool) (k : Nat) : (fun j => (lf j && !(j == k)) && !(j == k)) = fun j => lf j && !(j == k) := by
  funext j
  cases lf j <;> cases (j == k) <;> rfl
theorem mfL_some {mf : Nat → Option Value} {lf : Nat → Bool} {k : Nat} {v : Value} (h : mfL mf lf k = some v) : lf k = true ∧ mf k = some v := by
  unfold mfL at h
  split at h
  · exact ⟨by assumption, h⟩
  · cases h
set_option maxRecDepth 10000 in
set_option maxHeartbeats 2000000 in
theorem Sync_callsF (w : World) (g : Nat) (d : Dk) (S : Nat → Prop) (hd : DKF F w g d S) (ho : d.off = false) (hl : d.l.length ≤ 16384) (hv : waitP d ≤ 1000000000000) :
    Calls Try.prog 56 #[.pointer (some ⟨g, 0, none⟩)] w fun e w' => e = .returned (.int .i64 0) ∧ WroteF F w S g (syncD d) w' := by
  obtain ⟨gl, cl, mb, pk, lv, mf, hd, hs⟩ := hd
  have c1 : w.cell? ⟨g, 1, none⟩ = some (.map (some mb)) := hd.blk.cell 1
  have c2 : w.cell? ⟨g, 2, none⟩ = some (.bool false) := by have := hd.blk.cell 2; rw [this, ho]; rfl
  have hmap := hd.map
  obtain ⟨es1, es2⟩ := dL_start hd
  have hwtl := hd.wtl
  have hd0 := Lib.hid hd
  have hs := Lib.hid hs
  have hSg : Hid (S g ∧ S gl ∧ S mb) := ⟨(hs.out g).2 (.inl rfl), (hs.out gl).2 (.inr (.inl rfl)), (hs.out mb).2 (.inr (.inr (.inl rfl)))⟩
  have hvl := Lib.hid (fun (k : Nat) (hk : k < d.wt.length) => Nat.le_trans (waitP_le d (List.getElem_mem hk)) hv)
  have hwtlh := Lib.hid hwtl
  clear hwtl
  have hst := Lib.hid (And.intro es1 es2)
  have hend := Lib.hid (dL_end d)
  clear hd es1 es2 ho hv
  go_enter Try.func56, Try.ntmps56
  go_wp2_with (at_range; refine wpList_im_range rfl rfl Try.underlying3 Try.underlying79 hmap rfl ?_; intro w0 cnt hr hg0 hs0)
  go_frame
  obtain ⟨r, hr0⟩ : ∃ r, Hid (r = w.heap.size) := ⟨_, Lib.hid rfl⟩
  rw [← hr0.out] at hr ⊢
  have hC0 : Hid (Chg S w w0) := (Chg.refl S w).grown hg0 (fun k hk _ => by cases hk)
  have hr1 := Lib.hid hr
  have hd1 : Hid (Dsk F w0 g gl cl mb pk lv mf d) := hd0.out.chg (S := fun _ => False) ((Chg.refl _ w).grown hg0 (fun k hk _ => by cases hk)) (fun _ _ h => h) (fun _ _ _ h => h) (fun _ _ _ h => h)
  clear hg0 hs0 c1 c2 hmap hr hd0
  go_loopw [3, 4] (fun _ _ wr => ∃ lf cnt lv', Hid (IR Try.prog 3 wr mb r d.l.length (mfL mf lf) lf cnt) ∧ Hid (Dsk F wr g gl cl mb pk lv' (mfL mf lf) (dL d lf)) ∧ Hid (Chg S w wr)) (fun _ _ wr => wr.rangeLeft mb r)
  case atStart => exact ⟨fun k => (mf k).isSome, cnt, lv, by rw [hst.out.2]; exact hr1, by rw [hst.out.2, hst.out.1]; exact hd1, hC0⟩
  case round =>
    obtain ⟨lf, cnt, lv', hr, hd, hC⟩ := hrel
    clear hr1 hd1 hC0 hst
    go_wp2_with (at_next; refine wpList_ir_next rfl rfl Try.underlying3 hr.out rfl ?_ ?_)
    · intro _ hlf
      have hfin : Hid (WroteF F w S g (syncD d) wr) := by
        have h := hd.out
        rw [hend.out lf hlf] at h
        refine ⟨_, ⟨gl, cl, mb, pk, lv', _, h, fun _ => Iff.rfl⟩, hC.out, ?_⟩
        rintro k (rfl | rfl | rfl | ⟨j, v, hj, hv⟩)
        · exact .inl hSg.out.1
        · exact .inl hSg.out.2.1
        · exact .inl hSg.out.2.2
        · exact .inl ((hs.out k).2 (.inr (.inr (.inr ⟨j, v, (mfL_some hj).2, hv⟩))))
      clear hr hd hC
      go_wp2
      go_ret
      exact ⟨rfl, hfin.out⟩
    · intro k v w1 cnt1 hk hlk hvk hr1 hlt hg1 hs1 hen
      obtain ⟨lf', hlf'⟩ : ∃ lf', Hid (lf' = fun j => lf j && !(j == k)) := ⟨_, Lib.hid rfl⟩
      rw [← hlf'.out] at hr1
      have hle := Lib.hid (show cnt1 < cnt from hlt)
      have hcl := Lib.hid hr.out.left_eq
      have hdw : Dsk F w1 g gl cl mb pk lv' (mfL mf lf) (dL d lf) := by
        refine hd.out.chg (chg_grown hg1) (hd.out.foot_ne hr.out) (fun k cs hb => hr.out.iter_ne hb) (fun k cs hb => hr.out.iter_ne hb)
      have hC1 : Hid (Chg S w w1) := hC.out.grown hg1 (fun j hj hjl => by cases hj; have := hr0.out; omega)
      clear hg1 hs1 hr hd hC hlt
      obtain ⟨b, c, us, vs, hw, hne, rfl, ho, hgl, hdat⟩ := hdw.mfat hvk
      have hkw : k < d.wt.length := by rw [hwtlh.out]; exact hk
      have hvs : vs = d.wt.getD k [] := by
        simp only [dL, List.getElem?_map, List.getElem?_range hk, Option.map_some, hlk, if_true, Option.some.injEq] at hw
        exact hw.symm
      have hvm : vs.length ≤ 1000000000000 := by
        rw [hvs, List.getD_eq_getElem?_getD, List.getElem?_eq_getElem hkw]
        exact hvl.out k hkw
      have hul : us.length = vs.length := by simpa using ho.1
      have hpos : 0 < vs.length := List.length_pos_iff.2 hne
      obtain ⟨u, hu⟩ : ∃ u, us[vs.length - 1]? = some u := ⟨_, List.getElem?_eq_getElem (by omega)⟩
      obtain ⟨bb, hbb⟩ : ∃ b, vs[vs.length - 1]? = some b := ⟨_, List.getElem?_eq_getElem (by omega)⟩
      have hlast : lastP d k = bb := by
        unfold lastP
        rw [← hvs, List.getLast?_eq_getElem?, hbb]
        rfl
      have hur := hdat _ u bb hu hbb
      have hb512 : bb.length = 512 := hdw.vlen vs (List.mem_of_getElem? hw) bb (List.mem_of_getElem? hbb)
      have hset := hdw.setl (k := k) (by rw [dL_len]; exact hk) (u := u) (b := bb) hur hb512
      have hcu := own_cell ho hu
      have c0 : w1.cell? ⟨g, 0, none⟩ = some (.slice (some ⟨gl, 0, none⟩) d.l.length cl) := by
        have := hdw.blk.cell 0
        rw [dL_len] at this
        exact this
      have c1 : w1.cell? ⟨g, 1, none⟩ = some (.map (some mb)) := hdw.blk.cell 1
      have hfz : w1.frozen? ⟨gl, k, none⟩ = false := World.ownsRow.frozenAt hdw.row _
      obtain ⟨u0, hu0⟩ : ∃ u0, w1.cell? ⟨gl, k, none⟩ = some u0 := ⟨_, own_cell hdw.row (List.getElem?_eq_getElem (by rw [hdw.lvl, dL_len]; exact hk))⟩
      obtain ⟨n1, n2, n3⟩ := hdw.gne
      have hrg : r ≠ gl := fun e => by
        obtain ⟨cs, hc⟩ := own_blk hdw.row
        exact hr1.iter_ne hc e.symm
      obtain ⟨uA, uc, rfl⟩ := hur.shape
      rw [bvs_length, hb512] at hcu hset
      obtain ⟨w2, hw2⟩ : ∃ w2, w2 = w1.drew.setCell ⟨gl, k, none⟩ (.slice uA 512 uc) := ⟨_, rfl⟩
      have hr2 : IR Try.prog 3 w2 mb r d.l.length (mfL mf lf) lf' cnt1 := by
        rw [hw2]
        exact (hr1.keep (w' := w1.drew) rfl rfl).far (fun e => n3 e.symm) hrg _
      have hd2 : Dsk F w2 g gl cl mb pk (lv'.set k (.slice uA 512 uc)) (mfL mf lf) ⟨(dL d lf).l.set k bb, (dL d lf).wt, d.off, d.wr, d.arm, d.picks⟩ := by
        have h := hset.chg (w' := w2) (S := fun _ => False) (by rw [hw2]; exact ⟨rfl, rfl, rfl, Nat.le_refl _, fun _ _ _ => rfl⟩) (fun _ _ h => h) (fun _ _ _ h => h) (fun _ _ _ h => h)
        exact h
      have hC2 : Chg S w w2 := by
        rw [hw2]
        exact hC1.out.drew.at_ hSg.out.2.1 _
      have c0' : w2.cell? ⟨g, 1, none⟩ = some (.map (some mb)) := hd2.blk.cell 1
      have hkl : (k : Int) < (d.l.length : Int) := by omega
      have hk64 : k < 9223372036854775808 := by omega
      have hdn : Hid (∀ w3, IM Try.prog 3 w3 mb d.l.length (fun j => if j = k then none else mfL mf lf j) → w2.mapTurned w3 mb → Dsk F w3 g gl cl mb pk (lv'.set k (.slice uA 512 uc)) (mfL mf lf') (dL d lf') ∧ Chg S w w3) := fun w3 h1 h2 => by
        have hl2 : (⟨(dL d lf).l.set k bb, (dL d lf).wt, d.off, d.wr, d.arm, d.picks⟩ : Dk).l.length = d.l.length := by rw [List.length_set, dL_len]
        have h3 := hd2.del (w' := w3) (k := k) (by rw [hl2]; exact h1) h2
        rw [mfL_step, ← hlf'.out] at h3
        have h4 := dL_step d lf k
        rw [hlast, ← hlf'.out] at h4
        rw [← h4]
        exact ⟨h3, hC2.then_ (Dsk.mchg h2) (fun i _ hi => by cases hi; exact hSg.out.2.2)⟩
      obtain ⟨m, hm⟩ : ∃ m, vs.length = m + 1 := ⟨vs.length - 1, by omega⟩
      rw [hm, Nat.add_sub_cancel] at hcu
      rw [hm] at hen hvm
      have hmw : IntKind.i64.wrap ((m : Int) + 1 - 1) = (m : Int) := by rw [IntKind.wrap_i64]; omega
      have hmw2 : IntKind.i64.wrap (m : Int) = (m : Int) := by rw [IntKind.wrap_i64]; omega
      clear hd2 hC2 hset hdat hu hbb hlast hur hb512 hw hne hgl ho hpos hul hvk hkw hvs hm hdw hC1 hr1
      have hw2h := Lib.hid hw2
      have hr2h := Lib.hid hr2
      have hmlt : (m : Int) < (m : Int) + 1 := by omega
      have hmlt2 : (m : Int) < ((m + 1 : Nat) : Int) := by omega
      clear hw2 hr2 hwtlh
      go_wp2_with fail
      go_still_tail 12, (by kernel_rfl)
      change wpList _ _ _ _ _ w1.drew
      generalize hwd : w1.drew = wd at *
      have hfz2 : wd.frozen? ⟨gl, k, none⟩ = false := by rw [← hwd]; exact hfz
      have hcg2 : wd.cell? ⟨gl, k, none⟩ = some u0 := by rw [← hwd]; exact hu0
      clear hwd hfz hu0 c0 c1 hcu hen hmw hmw2 hmlt hmlt2 hvm n1 n2 n3 hrg
      obtain rfl := hw2h.out
      clear hw2h
      go_wp2_with (at_delete; refine wpList_ir_delete rfl rfl Try.underlying3 Try.underlying79 hr2h.out rfl rfl hk64 ?_; intro w3 cnt3 hr3 hle3 ht3)
      obtain ⟨hd3, hC3⟩ := hdn.out w3 hr3.im ht3
      have hd3h := Lib.hid hd3
      have hC3h := Lib.hid hC3
      rw [mfL_step, ← hlf'.out] at hr3
      have hlf2 : Hid ((fun j => lf' j && !(j == k)) = lf') := by
        show _ = _
        rw [hlf'.out]
        exact lf_twice lf k
      have hr3h : Hid (IR Try.prog 3 w3 mb r d.l.length (mfL mf lf') lf' cnt3) := by
        have := hr3
        rwa [hlf2.out] at this
      have hle3h := Lib.hid hle3
      clear hd3 hC3 hr3 hle3 ht3 hdn hr2h c0' hfz2 hcg2
      go_frame
      go_wp2
      go_roundw
      case rel => exact ⟨lf', cnt3, _, hr3h, hd3h, hC3h⟩
      case measure => rw [hr3h.out.left_eq, hcl.out]; exact Nat.lt_of_le_of_lt hle3h.out hle.out
end Go.Proofs.Ytefbmbfhhhjgkaa
