/- Twin. -/
import Derived.Test.YtjldjfipacagdaaBx
import Derived.Test.YtjldjfipacagdaaStr
import Derived.Laws.Tables
import Derived.Laws.CopyOwn
namespace Go.Proofs.Ytjldjfipacagdaa
open Go.RowKit
variable {F : Nat → Prop}
theorem stop_store {P : Program} (t : TypeId) {w : World} {ops : Array Oper} {rest : List Oper} {dst : Option Tmp} {ty : TypeId} {pos : String} {after : Array Edge} {g : Option (Nat × Bool)} {a : Act} {Q : Exit → Act → World → Prop} {x y : Operand}
    (h : Stop (wpList P ops Q (⟨dst, .store t x y, ty, pos, after, g⟩ :: rest) a w)) : wpList P ops Q (⟨dst, .store t x y, ty, pos, after, g⟩ :: rest) a w := h
theorem Dsk.addrow {w1 w3 : World} {g gl cl mb : Nat} {pk : Value} {lv : List Value} {mf : Nat → Option Value} {d : Dk} (h : Dsk F w1 g gl cl mb pk lv mf d) {k : Nat} (hk : k < d.l.length) {b c : Nat} {us : List Value} {vs : List (List UInt8)}
    (hown : w1.ownsRow 0 22 1 (.slice (some ⟨b, 0, none⟩) vs.length c) vs.length us) (hfr : ¬ foot g gl mb mf b) (hus : ∀ (i : Nat) (u : Value) (x : List UInt8), us[i]? = some u → vs[i]? = some x → RdT F 5 w1 u (bvs x))
    (hne : vs ≠ []) (hvl : ∀ x ∈ vs, x.length = 512) (hm : IM Try.prog 3 w3 mb d.l.length (fun j => if j = k then some (.slice (some ⟨b, 0, none⟩) vs.length c) else mf j)) (ht : w1.mapTurned w3 mb) :
    Dsk F w3 g gl cl mb pk lv (fun j => if j = k then some (.slice (some ⟨b, 0, none⟩) vs.length c) else mf j) ⟨d.l, d.wt.set k vs, d.off, d.wr, d.arm, d.picks⟩ := by
  obtain ⟨n1, n2, n3⟩ := h.gne
  have hc : Chg (fun j => j = mb) w1 w3 := Dsk.mchg ht
  have h8 : ∀ k cs, Blk w1 k 5 cs → ¬ k = mb := fun k cs hk => h.map.blk_ne hk
  have hi : ∀ k cs, Blk w1 k 3 cs → ¬ k = mb := fun k cs hk => h.map.blk_ne hk
  obtain ⟨cs, hcs⟩ := own_blk hown
  refine ⟨h.blk.chg hc n2, own_keep h.row (hc.block gl (h.lt (.inr (.inl rfl))) n3), by rw [List.length_set]; exact h.wtl, fun i u' b' h1 h2 => (h.dat i u' b' h1 h2).chg hc h8, h.len, hm, fun j vs0 hj => ?_, fun vs0 hvs0 b0 hb0 => ?_, ?_, h.pick.chg hc hi⟩
  · rw [List.getElem?_set] at hj
    by_cases e : k = j
    · subst e
      rw [if_pos rfl] at hj
      split at hj
      · cases hj
        exact .inr ⟨hne, b, c, us, if_pos rfl, own_keep hown (hc.block b hcs.lt (fun e => hfr (.inr (.inr (.inl e))))), fun e => hfr (.inr (.inl e)), fun i u x h6 h7 => (hus i u x h6 h7).chg hc h8⟩
      · cases hj
    · rw [if_neg e] at hj
      rcases h.ver j vs0 hj with ⟨h0, h1⟩ | ⟨h1, b', c', us', h2, h3, h4, h5⟩
      · exact .inl ⟨h0, by rw [if_neg (fun x => e x.symm)]; exact h1⟩
      · exact .inr ⟨h1, b', c', us', by rw [if_neg (fun x => e x.symm)]; exact h2, own_keep h3 (hc.block b' (h.vne h2 rfl).2.2.2 (h.vne h2 rfl).2.2.1), h4, fun i u x h6 h7 => (h5 i u x h6 h7).chg hc h8⟩
  · rcases List.mem_or_eq_of_mem_set hvs0 with h1 | h1
    · exact h.vlen _ h1 b0 hb0
    · rw [h1] at hb0
      exact hvl _ hb0
  · intro i j u u' bb h1 h2 h3 h4
    have one : ∀ (i j : Nat) (u u' : Value), (if i = k then some (Value.slice (some ⟨b, 0, none⟩) vs.length c) else mf i) = some u → mf j = some u' → u.ownBlock = some bb → u'.ownBlock = some bb → i = j := fun i j u u' h1 h2 h3 h4 => by
      by_cases e : i = k
      · rw [if_pos e] at h1
        cases h1
        have e2 : b = bb := by simpa [Value.ownBlock] using h3
        subst e2
        exact absurd (.inr (.inr (.inr ⟨j, u', h2, h4⟩))) hfr
      · rw [if_neg e] at h1
        exact h.apart i j _ _ _ h1 h2 h3 h4
    by_cases e1 : i = k
    · by_cases e2 : j = k
      · rw [e1, e2]
      · rw [if_neg e2] at h2
        exact one i j u u' h1 h2 h3 h4
    · rw [if_neg e1] at h1
      exact (one j i u' u h2 h1 h4 h3).symm
def dT (d : Dk) (lf : Nat → Bool) : Dk := ⟨d.l, (List.range d.l.length).map (fun n => if lf n then [] else d.wt.getD n []), d.off, d.wr, d.arm, d.picks⟩
theorem dT_step (d : Dk) (lf : Nat → Bool) (k : Nat) : (dT d lf).wt.set k (d.wt.getD k []) = (dT d (fun j => lf j && !(j == k))).wt := by
  unfold dT
  refine map_range_set _ _ _ _ _ (by simp) (fun j hj => ?_)
  have : (j == k) = false := beq_eq_false_iff_ne.2 hj
  simp [this]
theorem dT_end (d : Dk) (lf : Nat → Bool) (hw : d.wt.length = d.l.length) (h : ∀ k, lf k = false) : dT d lf = d := by
  unfold dT
  simp only [h, Bool.false_eq_true, if_false]
  rw [← hw, list_of_getD]
theorem dT_start {w : World} {g gl cl mb : Nat} {pk : Value} {lv : List Value} {mf : Nat → Option Value} {d : Dk} (h : Dsk F w g gl cl mb pk lv mf d) : dT d (fun k => (mf k).isSome) = ⟨d.l, List.replicate d.l.length [], d.off, d.wr, d.arm, d.picks⟩ := by
  unfold dT
  congr 1
  rw [List.map_congr_left (g := fun _ => []) (fun n hn => ?_)]
  · rw [List.map_const', List.length_range]
  · have hk := List.mem_range.1 hn
    rw [← h.wtl] at hk
    rcases h.ver n _ (getD_lt hk (z := [])) with ⟨h1, h2⟩ | ⟨_, b, c, us, h2, _⟩
    · show (if (mf n).isSome = true then [] else d.wt.getD n []) = []
      rw [h2, h1]; rfl
    · show (if (mf n).isSome = true then [] else d.wt.getD n []) = []
      rw [h2]; rfl
theorem Dsk.lv_one {w : World} {g gl cl mb : Nat} {pk : Value} {lv : List Value} {mf : Nat → Option Value} {d : Dk} (h : Dsk F w g gl cl mb pk lv mf d) : ∀ u ∈ lv, u.oneCell' = true := by
  intro u hu
  obtain ⟨i, hi, rfl⟩ := List.getElem_of_mem hu
  have hi2 : i < d.l.length := by rw [← h.lvl]; exact hi
  obtain ⟨A, c, e⟩ := (h.dat i _ _ (List.getElem?_eq_getElem hi) (List.getElem?_eq_getElem hi2)).shape
  rw [e]
  rfl
theorem im_twin {w w' : World} {b N : Nat} {f : Nat → Option Value} (h : IM Try.prog 3 w b N f) (hb : Below w.heap.size w w') : IM Try.prog 3 w' b N f := h.keep (hb.block b h.lt)
theorem Dsk.foot_ne2 {w : World} {g gl cl mb b' r N cnt : Nat} {pk : Value} {lv : List Value} {mf f : Nat → Option Value} {d : Dk} {lf : Nat → Bool} (h : Dsk F w g gl cl mb pk lv mf d) (hr : IR Try.prog 3 w b' r N f lf cnt) (hm : mb ≠ r) : ∀ k, foot g gl mb mf k → ¬ k = r := by
  rintro k (rfl | rfl | rfl | ⟨j, v, hj, hv⟩)
  · exact hr.iter_ne h.blk
  · obtain ⟨cs, hc⟩ := own_blk h.row
    exact hr.iter_ne hc
  · exact hm
  · obtain ⟨b, c, us, vs, _, _, rfl, ho, _⟩ := h.mfat hj
    obtain ⟨cs, hc⟩ := own_blk ho
    have e : b = k := by simpa [Value.ownBlock] using hv
    subst e
    exact hr.iter_ne hc
theorem row_one {w : World} {us : List Value} {vs : List (List UInt8)} (hl : us.length = vs.length) (h : ∀ (i : Nat) (u : Value) (x : List UInt8), us[i]? = some u → vs[i]? = some x → RdT F 5 w u (bvs x)) : ∀ u ∈ us, u.oneCell' = true := by
  intro u hu
  obtain ⟨i, hi, rfl⟩ := List.getElem_of_mem hu
  obtain ⟨A, c, e⟩ := (h i _ _ (List.getElem?_eq_getElem hi) (List.getElem?_eq_getElem (by omega))).shape
  rw [e]
  rfl
def TwinOutF (F : Nat → Prop) (w : World) (d : Dk) (e : Ending) (w' : World) : Prop := ∃ g S, e = .returned (.pointer (some ⟨g, 0, none⟩)) ∧ DKF F w' g d S ∧ Below w.heap.size w w' ∧ ∀ k, S k → w.heap.size ≤ k
set_option maxRecDepth 10000 in
set_option maxHeartbeats 4000000 in
theorem Twin_callsF (w : World) (hFn : ∀ k, w.heap.size ≤ k → F k) (g : Nat) (d : Dk) (S : Nat → Prop) (hd : DKF F w g d S) (hl0 : 0 < d.l.length) (hl : d.l.length ≤ 16384) (hv : waitP d ≤ 1000000000) (hpl : d.picks.length ≤ 1000000000) :
    Calls Try.prog 23 #[.pointer (some ⟨g, 0, none⟩)] w (TwinOutF F w d) := by
  obtain ⟨gl, cl, mb, pk, lv, mf, hd, _⟩ := hd
  obtain ⟨pA, pc, rfl⟩ := hd.pick.shape
  have hpkl : (ivs d.picks).length = d.picks.length := by simp [ivs]
  rw [hpkl] at hd
  have hld : (Instr.loadAt 62 (.pointer (some ⟨g, 0, none⟩))).run Try.prog w = .ok (.agg #[.slice (some ⟨gl, 0, none⟩) d.l.length cl, .map (some mb), .bool d.off, .int .i64 d.wr, .int .i64 d.arm, .slice pA d.picks.length pc]) w :=
    run_loadAt_cells w ⟨g, 0, none⟩ 62 [.slice (some ⟨gl, 0, none⟩) d.l.length cl, .map (some mb), .bool d.off, .int .i64 d.wr, .int .i64 d.arm, .slice pA d.picks.length pc] _ (fun j u hj => by
      rw [addr_add_at, Nat.zero_add, hd.blk.cell]
      simpa using hj) Try.underlying62 rfl (by kernel_rfl)
  have hmm := @run_makeMap Try.prog
  obtain ⟨g2, hg2⟩ : ∃ g2, Hid (g2 = w.heap.size) := ⟨_, Lib.hid rfl⟩
  have hgg : g ≠ g2 := by rw [hg2.out]; exact Nat.ne_of_lt hd.blk.lt
  have hdh := Lib.hid hd
  clear hd hpkl
  go_enter Try.func23, Try.ntmps23
  go_wp2_with (with_reducible refine stop_load 62 ?_)
  refine Stop.mk (wpList_load_cells rfl rfl rfl hld ?_)
  clear hld
  go_wp2_with (with_reducible refine stop_store 62 ?_)
  have hz0 : Blk (w.alloc (.cells #[.slice none 0 0, .map none, .bool false, .int .i64 0, .int .i64 0, .slice none 0 0] 62)) w.heap.size 62 #[.slice none 0 0, .map none, .bool false, .int .i64 0, .int .i64 0, .slice none 0 0] := Blk.new _ _ _
  refine Stop.mk (wpList_store_row rfl 62 _ _ rfl w.heap.size #[.slice (some ⟨gl, 0, none⟩) d.l.length cl, .map (some mb), .bool d.off, .int .i64 d.wr, .int .i64 d.arm, .slice pA d.picks.length pc] rfl rfl 62 #[.slice none 0 0, .map none, .bool false, .int .i64 0, .int .i64 0, .slice none 0 0] hz0 (by kernel_rfl) rfl (by simp [Value.oneCell']) ?_)
  have hR1 : Blk (World.setRow (w.alloc (.cells #[.slice none 0 0, .map none, .bool false, .int .i64 0, .int .i64 0, .slice none 0 0] 62)) w.heap.size #[.slice (some ⟨gl, 0, none⟩) d.l.length cl, .map (some mb), .bool d.off, .int .i64 d.wr, .int .i64 d.arm, .slice pA d.picks.length pc]) w.heap.size 62 #[.slice (some ⟨gl, 0, none⟩) d.l.length cl, .map (some mb), .bool d.off, .int .i64 d.wr, .int .i64 d.arm, .slice pA d.picks.length pc] := setRow_heap _ _ _ _ _ _ hz0
  have hB1 : Below w.heap.size w (World.setRow (w.alloc (.cells #[.slice none 0 0, .map none, .bool false, .int .i64 0, .int .i64 0, .slice none 0 0] 62)) w.heap.size #[.slice (some ⟨gl, 0, none⟩) d.l.length cl, .map (some mb), .bool d.off, .int .i64 d.wr, .int .i64 d.arm, .slice pA d.picks.length pc]) := below_setRow ((Below.refl _ _).alloc (Nat.le_refl _) _) (Nat.le_refl _) _
  generalize World.setRow (w.alloc (.cells #[.slice none 0 0, .map none, .bool false, .int .i64 0, .int .i64 0, .slice none 0 0] 62)) w.heap.size #[.slice (some ⟨gl, 0, none⟩) d.l.length cl, .map (some mb), .bool d.off, .int .i64 d.wr, .int .i64 d.arm, .slice pA d.picks.length pc] = w1 at *
  clear hz0
  rw [← hg2.out] at hR1 ⊢
  have hd1 := hdh.out.still hB1
  have c0 : w1.cell? ⟨g, 0, none⟩ = some (.slice (some ⟨gl, 0, none⟩) d.l.length cl) := hd1.blk.cell 0
  have HC := Lib.hid (CloneV_calls w1 (.slice (some ⟨gl, 0, none⟩) d.l.length cl) lv (Rd.of_own hd1.row) (by rw [hd1.lvl]; omega) hd1.lv_one)
  have hlvl := Lib.hid hd1.lvl
  have hd1h := Lib.hid hd1
  clear hd1
  go_wp2_with fail
  refine HC.out.mono ?_
  rintro e w2 ⟨r, rfl, hor, hB2, hf2⟩
  rw [hlvl.out] at hor
  obtain ⟨gl2, cl2, rfl⟩ := own_at hor hl0
  have hR2 : Blk w2 g2 62 #[.slice (some ⟨gl, 0, none⟩) d.l.length cl, .map (some mb), .bool d.off, .int .i64 d.wr, .int .i64 d.arm, .slice pA d.picks.length pc] := (hB2.block g2 hR1.lt).trans hR1
  have hd2 := hd1h.out.still hB2
  have hgl2 : w1.heap.size ≤ gl2 := hf2 gl2 rfl
  have e0 : w2.cell? ⟨g2, 0, none⟩ = some (.slice (some ⟨gl, 0, none⟩) d.l.length cl) := hR2.cell 0
  have e1 : w2.cell? ⟨g2, 1, none⟩ = some (.map (some mb)) := hR2.cell 1
  have f0 := hR2.frozen 0
  have f1 := hR2.frozen 1
  have c1 : w2.cell? ⟨g, 1, none⟩ = some (.map (some mb)) := hd2.blk.cell 1
  have hB12 := hB1.trans (hB2.mono hB1.size)
  have hng : gl2 ≠ g2 := by have := hR1.lt; omega
  -- the twin's own world ahead of the range
  obtain ⟨mb2, hmb2⟩ : ∃ mb2, Hid (mb2 = w2.heap.size) := ⟨_, Lib.hid rfl⟩
  obtain ⟨W3, hW3⟩ : ∃ W3, W3 = ((w2.setCell ⟨g2, 0, none⟩ (.slice (some ⟨gl2, 0, none⟩) d.l.length cl2)).alloc (.map #[] 0)).setCell ⟨g2, 1, none⟩ (.map (some w2.heap.size)) := ⟨_, rfl⟩
  have hBW : Below w.heap.size w W3 := by
    rw [hW3]
    have h1 := hB12.setCell (p := ⟨g2, 0, none⟩) (Nat.le_of_eq hg2.out.symm) (.slice (some ⟨gl2, 0, none⟩) d.l.length cl2)
    exact (h1.alloc h1.size (.map #[] 0)).setCell (p := ⟨g2, 1, none⟩) (Nat.le_of_eq hg2.out.symm) _
  have hdW := hdh.out.still hBW
  have hmW := hdW.map
  have hTW : Dsk F W3 g2 gl2 cl2 mb2 (.slice pA d.picks.length pc) lv (fun _ => none) (dT d (fun k => (mf k).isSome)) := by
    rw [dT_start hdh.out]
    have hc : Chg (fun k => k = g2) w2 W3 := by
      rw [hW3]
      exact (((Chg.refl (fun k => k = g2) w2).at_ rfl _).alloc _).at_ rfl _
    have hrow2 : W3.ownsRow 0 22 1 (.slice (some ⟨gl2, 0, none⟩) d.l.length cl2) d.l.length lv := by
      obtain ⟨cs, hcs⟩ := own_blk hor
      exact own_keep hor (hc.block gl2 hcs.lt hng)
    have hm2 : IM Try.prog 3 W3 mb2 d.l.length (fun _ => none) := by
      rw [hW3, hmb2.out]
      have h1 := IM.made Try.prog 3 (w2.setCell ⟨g2, 0, none⟩ (.slice (some ⟨gl2, 0, none⟩) d.l.length cl2)) d.l.length
      rw [show (w2.setCell ⟨g2, 0, none⟩ (.slice (some ⟨gl2, 0, none⟩) d.l.length cl2)).heap.size = w2.heap.size by simp [World.setCell]] at h1
      exact h1.far (p := ⟨g2, 1, none⟩) (Nat.ne_of_gt hR2.lt) _
    refine ⟨?_, hrow2, List.length_replicate, fun i u b h1 h2 => (hd2.dat i u b h1 h2).chg hc (fun k cs hk => hk.ne_ hR2 (by decide)), hd2.len, hm2, fun k vs hk => .inl ⟨List.eq_of_mem_replicate (List.mem_of_getElem? hk), rfl⟩, fun vs hv b hb => ?_, fun j k v v' b h1 => (by cases h1), hd2.pick.chg hc (fun k cs hk => hk.ne_ hR2 (by decide))⟩
    · rw [hW3, hmb2.out]
      exact ((hR2.set_ 0 _).alloc _).set_ 1 _
    · rw [List.eq_of_mem_replicate hv] at hb
      cases hb
  have hfb : ((w2.setCell ⟨g2, 0, none⟩ (.slice (some ⟨gl2, 0, none⟩) d.l.length cl2)).alloc (.map #[] 0)).frozen? ⟨g2, 1, none⟩ = false := ((hR2.set_ 0 _).alloc _).frozen 1
  have hcb : ((w2.setCell ⟨g2, 0, none⟩ (.slice (some ⟨gl2, 0, none⟩) d.l.length cl2)).alloc (.map #[] 0)).cell? ⟨g2, 1, none⟩ = some (.map (some mb)) := ((hR2.set_ 0 _).alloc _).cell 1
  have c1w : (((w2.setCell ⟨g2, 0, none⟩ (.slice (some ⟨gl2, 0, none⟩) d.l.length cl2)).alloc (.map #[] 0)).setCell ⟨g2, 1, none⟩ (.map (some w2.heap.size))).cell? ⟨g, 1, none⟩ = some (.map (some mb)) := by
    rw [← hW3]
    exact hdW.blk.cell 1
  have hft : Hid (∀ j, foot g2 gl2 mb2 (fun _ => none) j → w.heap.size ≤ j) := by
    rintro j (rfl | rfl | rfl | ⟨_, _, h, _⟩)
    · exact Nat.le_of_eq hg2.out.symm
    · exact Nat.le_trans hB1.size hgl2
    · rw [hmb2.out]
      exact hB12.size
    · cases h
  have hTWh := Lib.hid hTW
  have hBWh := Lib.hid hBW
  have hdWh := Lib.hid hdW
  have hmWh := Lib.hid hmW
  have hW3h := Lib.hid hW3
  clear hTW hBW hdW hmW hW3 hd2 hB12 hB1 hB2 hf2 hor hR1 hR2 hd1h c0 HC hlvl
  go_wp2_with (at_range; refine wpList_im_range (N := d.l.length) (f := mf) rfl rfl Try.underlying3 Try.underlying60 (by rw [← hW3h.out]; exact hmWh.out) rfl ?_; rw [← hW3h.out]; intro w0 cnt hr hg0 hs0)
  go_frame
  obtain ⟨r, hr0⟩ : ∃ r, Hid (r = W3.heap.size) := ⟨_, Lib.hid rfl⟩
  rw [← hr0.out] at hr ⊢
  have hB30 : Below W3.heap.size W3 w0 := (Below.refl _ _).grown hg0 (Nat.le_refl _) (fun j hj => by cases hj)
  have hT0 := Lib.hid (hTWh.out.still hB30)
  have hB0 := Lib.hid (hBWh.out.trans (hB30.mono hBWh.out.size))
  have hr1 := Lib.hid hr
  have hwtl := Lib.hid hdh.out.wtl
  have hrw : Hid (w.heap.size ≤ r) := by rw [hr0.out]; exact hBWh.out.size
  have hmb2l : Hid (mb2 < W3.heap.size) := hTWh.out.map.lt
  clear hg0 hs0 hr hB30 hTWh hBWh hdWh hmWh e0 e1 f0 f1 c1 hW3h hfb hcb c1w
  go_loopw [4, 5] (fun _ _ wr => ∃ lf cnt mf2, Hid (IR Try.prog 3 wr mb r d.l.length mf lf cnt) ∧ Hid (Dsk F wr g2 gl2 cl2 mb2 (.slice pA d.picks.length pc) lv mf2 (dT d lf)) ∧ Hid (Below w.heap.size w wr) ∧ Hid (∀ j, foot g2 gl2 mb2 mf2 j → w.heap.size ≤ j) ∧ Hid (∀ k, lf k = true → mf2 k = none)) (fun _ _ wr => wr.rangeLeft mb r)
  case atStart => exact ⟨_, _, _, hr1, hT0, hB0, hft, fun _ _ => rfl⟩
  case round =>
    obtain ⟨lf, cnt, mf2, hr, hT, hB, hF, hN⟩ := hrel
    clear hr1 hT0 hB0 hft
    go_wp2_with (at_next; refine wpList_ir_next rfl rfl Try.underlying3 hr.out rfl ?_ ?_)
    · intro _ hlf
      have hend := dT_end d lf hwtl.out hlf
      have hds := hdh.out.still hB.out
      have c5 : wr.cell? ⟨g, 5, none⟩ = some (.slice pA d.picks.length pc) := hds.blk.cell 5
      have hpl2 : (ivs d.picks).length = d.picks.length := by simp [ivs]
      have HP := Lib.hid (CloneI_calls wr (.slice pA d.picks.length pc) (ivs d.picks) hds.pick.1 (by rw [hpl2]; exact hpl) (ivs_one _))
      have hendh := Lib.hid hend
      clear hend hlf hr hds hpl2
      go_wp2_with fail
      refine HP.out.mono ?_
      rintro e w5 ⟨r5, rfl, hor5, hB5, hf5⟩
      obtain ⟨N5, A5, c5', hN5, rfl, hor6⟩ := own_hide hor5
      have hT5 := hT.out.still hB5
      have hc5 : Chg (fun k => k = g2) w5 (w5.setCell ⟨g2, 5, none⟩ (.slice A5 N5 c5')) := (Chg.refl (fun k => k = g2) w5).at_ rfl _
      have hfin0 := hT5.put hc5 (hT5.blk.set_ 5 _) ((RdT.of_own hor6 (fun j hj => hFn j (Nat.le_trans hB.out.size (hf5 j hj)))).chg hc5 (fun k cs hk => hk.ne_ hT5.blk (by decide)))
      have hfin : Hid (TwinOutF F w d (.returned (.pointer (some ⟨g2, 0, none⟩))) (w5.setCell ⟨g2, 5, none⟩ (.slice A5 N5 c5'))) := by
        refine ⟨g2, foot g2 gl2 mb2 mf2, rfl, ⟨gl2, cl2, mb2, .slice A5 N5 c5', lv, mf2, ?_, fun _ => Iff.rfl⟩, (hB.out.trans (hB5.mono hB.out.size)).setCell (p := ⟨g2, 5, none⟩) (Nat.le_of_eq hg2.out.symm) _, hF.out⟩
        have := hfin0
        rw [show (⟨(dT d lf).l, (dT d lf).wt, (dT d lf).off, (dT d lf).wr, (dT d lf).arm, d.picks⟩ : Dk) = dT d lf from rfl, hendh.out] at this
        exact this
      have d5 : w5.cell? ⟨g2, 5, none⟩ = some (.slice pA d.picks.length pc) := hT5.blk.cell 5
      have f5 := hT5.blk.frozen 5
      clear hT5 hc5 hfin0 hor5 hor6 hB5 hf5 hT hB hF hN HP hendh hFn
      go_wp2
      go_ret
      exact hfin.out
    · intro k v w1 cnt1 hk hlk hvk hr1 hlt hg1 hs1 hen
      have hle := Lib.hid (show cnt1 < cnt from hlt)
      have hcl := Lib.hid hr.out.left_eq
      have hmr : mb2 ≠ r := by have := hmb2l.out; have := hr0.out; omega
      have hT1 : Dsk F w1 g2 gl2 cl2 mb2 (.slice pA d.picks.length pc) lv mf2 (dT d lf) := hT.out.chg (chg_grown hg1) (hT.out.foot_ne2 hr.out hmr) (fun k cs hb => hr.out.iter_ne hb) (fun k cs hb => hr.out.iter_ne hb)
      have hB1 : Below w.heap.size w w1 := hB.out.grown hg1 hB.out.size (fun j hj => by cases hj; exact hrw.out)
      obtain ⟨b, c, us, vs, hw, hne, rfl, ho, hgl, hdat⟩ := (hdh.out.still hB1).mfat hvk
      have hul : us.length = vs.length := by simpa using ho.1
      have hpos : 0 < vs.length := List.length_pos_iff.2 hne
      have hvs : vs = d.wt.getD k [] := by rw [List.getD_eq_getElem?_getD, hw]; rfl
      have hvm : vs.length ≤ 1000000000 := Nat.le_trans (waitP_le d (List.mem_of_getElem? hw)) hv
      have c1 : w1.cell? ⟨g2, 1, none⟩ = some (.map (some mb2)) := hT1.blk.cell 1
      have hone := row_one hul hdat
      have hv512 : ∀ x ∈ vs, x.length = 512 := fun x hx => hdh.out.vlen vs (List.mem_of_getElem? hw) x hx
      have hmbne : mb ≠ mb2 := by
        have h1 := hdh.out.map.lt
        have h2 := hF.out mb2 (.inr (.inr (.inl rfl)))
        omega
      have hmnone := hN.out k hlk
      have hgx : Hid (Blk w1 g2 62 #[.slice (some ⟨gl2, 0, none⟩) d.l.length cl2, .map (some mb2), .bool d.off, .int .i64 d.wr, .int .i64 d.arm, .slice pA d.picks.length pc]) := hT1.blk
      have hT1h := Lib.hid hT1
      have hB1h := Lib.hid hB1
      have hr1h := Lib.hid hr1
      have hRd : Hid (Rd w1.drew (.slice (some ⟨b, 0, none⟩) vs.length c) us) := Rd.of_own ho
      have hdath := Lib.hid hdat
      have hvsh := Lib.hid hvs
      have hulh := Lib.hid hul
      have honeh := Lib.hid hone
      have hv5h := Lib.hid hv512
      clear hvs hul hw hone hv512 hmnone
      clear hT1 hB1 hr1 hT hB hr hlt hg1 hs1 hdat ho hvk
      go_wp2_with fail
      clear hen
      refine wp_mix_tail (fun W => W.cell? ⟨g2, 1, none⟩ = some (.map (some mb2))) [4, 5] (by kernel_rfl) (by kernel_rfl) (by kernel_rfl) (by kernel_rfl) c1 ?_
      iterate 4 (refine mixq rfl rfl ?_ (fun w' hw' => Or.inl ?_) (fun K hK => ?_); rotate_left; (focus (have c1 := hw'; go_simp; rfl)); go_simp; refine hK _ ?_; clear hK K)
      refine mixl rfl rfl (fun K hK => ?_)
      go_simp
      refine (CloneV_calls w1.drew (.slice (some ⟨b, 0, none⟩) vs.length c) us hRd.out (by rw [hulh.out]; exact hvm) honeh.out).mono ?_
      rintro e w2 ⟨r2, rfl, hor2, hB2, hf2⟩
      rw [hulh.out] at hor2
      obtain ⟨b2, c2, rfl⟩ := own_at hor2 hpos
      have hB2 : Below w1.heap.size w1 w2 := ⟨hB2.os, hB2.tape, hB2.output, hB2.size, hB2.block⟩
      have hT2 := hT1h.out.still hB2
      refine hK _ _ (fun _ => hT2.blk.cell 1) ?_
      clear hK K
      refine mixl rfl rfl (fun K hK => ?_)
      refine wp_im_update (et := 35) rfl Try.underlying3 Try.underlying60 hT2.map rfl (k := k) rfl (by show d.l.length < _; omega) hk rfl ?_
      intro w3 hm3 ht3
      go_simp
      refine hK _ _ (fun hf => (by cases hf)) (mix_nil ?_)
      clear hK K
      have hb2 : w1.heap.size ≤ b2 := hf2 b2 rfl
      have hT3 := hT2.addrow (k := k) hk hor2 (fun hf => by have := hT1h.out.lt hf; omega) (fun i u x h1 h2 => (hdath.out i u x h1 h2).below hB2) hne hv5h.out hm3 ht3
      rw [hvsh.out] at hT3
      have hdst := dT_step d lf k
      have hT3h : Hid (Dsk F w3 g2 gl2 cl2 mb2 (.slice pA d.picks.length pc) lv (fun j => if j = k then some (.slice (some ⟨b2, 0, none⟩) (d.wt.getD k []).length c2) else mf2 j) (dT d (fun j => lf j && !(j == k)))) := by
        have e : (⟨(dT d lf).l, (dT d lf).wt.set k (d.wt.getD k []), (dT d lf).off, (dT d lf).wr, (dT d lf).arm, (dT d lf).picks⟩ : Dk) = dT d (fun j => lf j && !(j == k)) := by rw [hdst]; rfl
        rw [← e]
        exact hT3
      have hmt : Chg (fun j => j = mb2) w2 w3 := Dsk.mchg ht3
      have hr3h : Hid (IR Try.prog 3 w3 mb r d.l.length mf (fun j => lf j && !(j == k)) cnt1) := by
        refine hr1h.out.keep ?_ ?_
        · exact (hmt.block mb (Nat.lt_of_lt_of_le hr1h.out.im.lt hB2.size) hmbne).trans (hB2.block mb hr1h.out.im.lt)
        · exact (hmt.block r (Nat.lt_of_lt_of_le hr1h.out.rlt hB2.size) (fun e => hmr e.symm)).trans (hB2.block r hr1h.out.rlt)
      have hF3 : Hid (∀ j, foot g2 gl2 mb2 (fun j => if j = k then some (.slice (some ⟨b2, 0, none⟩) (d.wt.getD k []).length c2) else mf2 j) j → w.heap.size ≤ j) := by
        rintro j (rfl | rfl | rfl | ⟨i, v, hi, hv2⟩)
        · exact hF.out j (.inl rfl)
        · exact hF.out j (.inr (.inl rfl))
        · exact hF.out j (.inr (.inr (.inl rfl)))
        · dsimp only at hi
          by_cases e : i = k
          · rw [if_pos e] at hi
            cases hi
            have e2 : b2 = j := by simpa [Value.ownBlock] using hv2
            have := hB1h.out.size
            omega
          · rw [if_neg e] at hi
            exact hF.out j (.inr (.inr (.inr ⟨i, v, hi, hv2⟩)))
      have hN3 : Hid (∀ j, (lf j && !(j == k)) = true → (if j = k then some (Value.slice (some ⟨b2, 0, none⟩) (d.wt.getD k []).length c2) else mf2 j) = none) := by
        intro j hj
        simp only [Bool.and_eq_true, Bool.not_eq_true', beq_eq_false_iff_ne] at hj
        rw [if_neg hj.2]
        exact hN.out j hj.1
      have hB3h : Hid (Below w.heap.size w w3) := (hB1h.out.trans (hB2.mono hB1h.out.size)).grown ht3.grown (Nat.le_trans hB1h.out.size hB2.size) (fun j hj => by cases hj; exact hF.out _ (.inr (.inr (.inl rfl))))
      clear hT3 hT2 hmt hm3 ht3 hB2 hor2 hf2 hdst
      go_wp2
      go_roundw
      case rel => exact ⟨_, cnt1, _, hr3h, hT3h, hB3h, hF3, hN3⟩
      case measure => rw [hr3h.out.left_eq, hcl.out]; exact hle.out
end Go.Proofs.Ytjldjfipacagdaa
