/- Cut, walked. -/
import Derived.Test.YtefbmbfhhhjgkaaBu
namespace Go.Proofs.Ytefbmbfhhhjgkaa
open Go.RowKit
variable {F : Nat → Prop}
theorem dG_step0 (d : Dk) (f : Nat → List UInt8) (lf : Nat → Bool) (k : Nat) (hl : lf k = true) (hf : f k = d.l.getD k []) : (⟨(dG d f lf).l, (dG d f lf).wt.set k [], true, d.wr, d.arm, d.picks⟩ : Dk) = dG d f (fun j => lf j && !(j == k)) := by
  rw [← dG_step]
  congr 1
  show _ = ((List.range d.l.length).map _).set k (f k)
  rw [map_range_set _ _ _ (fun n => if lf n then d.l.getD n [] else f n) (f k) (by simp [hl, hf]) (fun j _ => rfl)]
  rfl
theorem Rd.chgN {S : Nat → Prop} {w w' : World} {v : Value} {us : List Value} (h : Rd w v us) (hb : Chg S w w') (hs : us ≠ [] → ∀ k, v.ownBlock = some k → ¬ S k) : Rd w' v us := by
  by_cases hu : us = []
  · subst hu
    exact h.empty _
  · exact h.chg hb (hs hu)
theorem Rd.shapeI {w : World} {v : Value} {us : List Value} (h : Rd w v us) : ∃ A c, v = .slice A us.length c := by
  obtain ⟨A, c, e, _⟩ := h
  exact ⟨A, c, e⟩
theorem RdT.away {t : TypeId} {w : World} {v : Value} {us : List Value} {S : Nat → Prop} (h : RdT F t w v us) (hs : ∀ k cs, Blk w k t cs → ¬ S k) : us ≠ [] → ∀ j, v.ownBlock = some j → ¬ S j := fun hne j hj => by
  obtain ⟨k, cs, e, hb, _⟩ := h.2 hne
  rw [e] at hj
  cases hj
  exact hs _ cs hb
theorem ivs_ne {l : List Int} (h : l ≠ []) : ivs l ≠ [] := fun e => h (by cases l with | nil => rfl | cons a r => cases e)
theorem Rd.intAt {w : World} {A : Option Addr} {n c : Nat} {us : List Int} (h : Rd w (.slice A n c) (ivs us)) {k : Nat} (hk : k < us.length) : ∃ ad, A = some ad ∧ w.cell? (ad.add k) = some (.int .i64 us[k]) := by
  obtain ⟨ad, c', e, hc⟩ := h.cell (j := k) (by simpa [ivs] using hk)
  injection e with e1 _ _
  exact ⟨ad, e1, by rw [hc]; simp [ivs]⟩
set_option maxRecDepth 10000 in
set_option maxHeartbeats 8000000 in
theorem Cut_callsF (w : World) (g : Nat) (d : Dk) (S : Nat → Prop) (hd : DKF F w g d S) (ho : d.off = false) (hl : d.l.length ≤ 16384) (hv : waitP d ≤ 1000000000000) (x : Value) (picks : List Int) (hx : Rd w x (ivs picks)) (hxn : picks ≠ [] → ∀ j, x.ownBlock = some j → ¬ S j) (hpl : picks.length ≤ 1000000000000) :
    Calls Try.prog 30 #[.pointer (some ⟨g, 0, none⟩), x] w fun e w' => e = .returned (.tuple #[]) ∧ WroteF F w S g (cutD d picks) w' := by
  have hSg0 := hd.at_
  obtain ⟨gl, cl, mb, pk, lv, mf, hd, hs⟩ := hd
  have c1 : w.cell? ⟨g, 1, none⟩ = some (.map (some mb)) := hd.blk.cell 1
  have c2 : w.cell? ⟨g, 2, none⟩ = some (.bool false) := by have := hd.blk.cell 2; rw [this, ho]; rfl
  have f2 := hd.blk.frozen 2
  have hS : Hid (S g ∧ S gl ∧ S mb) := ⟨(hs g).2 (.inl rfl), (hs gl).2 (.inr (.inl rfl)), (hs mb).2 (.inr (.inr (.inl rfl)))⟩
  have hSlt : Hid (∀ k, S k → k < w.heap.size) := fun k hk => hd.lt ((hs k).1 hk)
  have hSi : Hid (∀ k cs, Blk w k 3 cs → ¬ S k) := fun k cs hb hf => by
    rcases hd.kind ((hs k).1 hf) hb with e | e <;> exact absurd e (by decide)
  obtain ⟨w1, hw1⟩ : ∃ w1, w.setCell ⟨g, 2, none⟩ (.bool true) = w1 := ⟨_, rfl⟩
  have hC1 : Chg (fun k => k = g) w w1 := by rw [← hw1]; exact (Chg.refl (fun k => k = g) w).at_ rfl _
  have hCS : Chg S w w1 := by rw [← hw1]; exact (Chg.refl S w).at_ hSg0 _
  have hd1 : Dsk F w1 g gl cl mb pk lv mf ⟨d.l, d.wt, true, d.wr, d.arm, d.picks⟩ := by
    refine hd.put hC1 ?_ (hd.pick.chg hC1 (fun k cs hk => hk.ne_ hd.blk (by decide)))
    rw [← hw1]
    exact hd.blk.set_ 2 _
  have hne0 : ivs picks ≠ [] → picks ≠ [] := fun h e => h (by rw [e]; rfl)
  have hx1 := hx.chgN hCS (fun h => hxn (hne0 h))
  have hwtl := hd.wtl
  have hwtl2 : d.wt.length = d.l.length := hd.wtl
  have hmf : Hid (∀ k, k < d.l.length → (mf k).isSome = false → d.wt.getD k [] = []) := fun k hk hf => by
    rw [← hd.wtl] at hk
    rcases hd.ver k _ (getD_lt hk (z := [])) with ⟨h1, _⟩ | ⟨_, b, c, us, h2, _⟩
    · exact h1
    · rw [h2] at hf; cases hf
  have hvl := Lib.hid (fun (k : Nat) (hk : k < d.wt.length) => Nat.le_trans (waitP_le d (List.getElem_mem hk)) hv)
  have hidx := Lib.hid (fun i (hi : i < (ksP d.l.length mf).length) => ks_idx hd hi)
  have hst := Lib.hid (dG_start d (cutB d picks) hwtl)
  obtain ⟨D, hown, hKD⟩ := hd1.map
  have hsz : Maps.size D ≤ d.l.length := hKD.size_le
  have HK := Lib.hid (keysA_calls w1 (some mb))
  have HS := Lib.hid (sortedA_calls mb _ D rawR w1 hown (by unfold maxLen; omega) (by omega))
  have hKDs := Lib.hid (fun ss hss => KD.sorted hKD (ss := ss) hss)
  have c1' : w1.cell? ⟨g, 1, none⟩ = some (.map (some mb)) := hd1.blk.cell 1
  have hd1h := Lib.hid hd1
  have hx1h := Lib.hid hx1
  have hCSh := Lib.hid hCS
  have hsh := Lib.hid hs
  have hwth := Lib.hid hwtl
  obtain ⟨xA, xc, rfl⟩ := hx.shapeI
  have hxl : (ivs picks).length = picks.length := by simp [ivs]
  rw [hxl] at hx1h hxn ⊢
  have hxnh := Lib.hid (fun h => hxn (hne0 h))
  clear hxn hne0
  clear hd1 hx1 hCS hs hwtl hwtl2 hown hKD hsz hd ho hSg0 hC1 hx hxl hv
  go_enter Try.func30, Try.ntmps30
  go_wp2_with fail
  refine HK.out.mono ?_
  rintro e w2 ⟨rfl, rfl⟩
  go_wp2_with fail
  refine HS.out.mono ?_
  rintro e w3 ⟨v, ss, rfl, hS2, hrow, hB3⟩
  have hks := hKDs.out ss hS2
  rw [hks] at hrow
  have hlen : ss.length = (ksP d.l.length mf).length := by
    have := congrArg List.length hks
    rw [List.length_mergeSort, List.length_map] at this
    exact this
  rw [hlen] at hrow
  have hrow : w3.ownsRow (w1.heap.size + 1) 3 1 v (ksP d.l.length mf).length (ivs ((ksP d.l.length mf).map Int.ofNat)) := hrow
  have hB13 : Below w1.heap.size w1 w3 := ((Below.refl _ _).alloc (Nat.le_refl _) _).trans (hB3.mono (Nat.le_succ _))
  have hd3 := Lib.hid (hd1h.out.chg (S := fun k => w1.heap.size ≤ k) ((Chg.of_below hB13).mono (fun _ _ h => h)) (fun k hk => Nat.not_le.2 (hd1h.out.lt hk)) (fun k cs hk => Nat.not_le.2 hk.lt) (fun k cs hk => Nat.not_le.2 hk.lt))
  have hx3 := Lib.hid (hx1h.out.below hB13)
  have hC3 : Hid (Chg S w w3) := hCSh.out.then_ ((Chg.of_below hB13 : Chg (fun _ => False) w1 w3)) (fun _ _ h => h.elim)
  have hkr := Lib.hid (Rd.of_own hrow)
  have hko : Hid (∀ j, v.ownBlock = some j → ¬ S j) := fun j hj hSj => by
    have h1 := (World.ownsRow.lt hrow j hj).1
    have h2 := hSlt.out j hSj
    have := hCSh.out.size
    omega
  obtain ⟨kA, kc, rfl⟩ := own_shape hrow
  have hS3 := hC3
  clear hS2 hrow hB3 hks hlen hB13 HK HS hKDs hd1h hx1h hCSh c1 c1' c2 f2 hw1
  obtain ⟨ks, hksE⟩ : ∃ ks, Hid (ks = ksP d.l.length mf) := ⟨_, Lib.hid rfl⟩
  rw [← hksE.out] at hkr hidx hko ⊢
  have hnd : Hid (ks.Nodup) := by rw [hksE.out]; exact ksP_nodup _ _
  have hkN : Hid (∀ k ∈ ks, k < d.l.length) := by rw [hksE.out]; exact fun k hk => List.mem_range.1 (List.mem_filter.1 hk).1
  have hksl : Hid (ks.length ≤ d.l.length) := by rw [hksE.out]; exact Nat.le_trans (List.length_filter_le _ _) (by simp)
  have hksl2 := hksl.out
  have hkmf : Hid (∀ k ∈ ks, ∃ vv, mf k = some vv) := by
    rw [hksE.out]
    exact fun k hk => Option.isSome_iff_exists.1 (List.mem_filter.1 hk).2
  have hfull : Hid (∀ k, k < d.l.length → (!ks.contains k) = true → d.wt.getD k [] = []) := fun k hk hc => by
    refine hmf.out k hk ?_
    cases hm : (mf k).isSome
    · rfl
    · have : k ∈ ks := by rw [hksE.out]; exact List.mem_filter.2 ⟨List.mem_range.2 hk, hm⟩
      simp [List.contains_eq_mem, this] at hc
  go_wp2
  go_loopw [4, 5, 6, 7, 22] (fun _ _ _ _ i wr => ∃ (j : Nat) (lv' : List Value), j ≤ ks.length ∧ i = .int .i64 j ∧ Hid (Dsk F wr g gl cl mb pk lv' (mfL mf (fun n => !(ks.take j).contains n)) (dG d (cutB d picks) (fun n => !(ks.take j).contains n))) ∧ Hid (Chg S w3 wr)) (fun _ _ _ _ i _ => ks.length - (RowKit.intOf i).toNat)
  case atStart => exact ⟨0, lv, Nat.zero_le _, rfl, by
    have e1 : (fun n => !(ks.take 0).contains n) = fun _ => true := by funext n; simp
    rw [e1, hst.out]
    exact hd3.out, Chg.refl _ _⟩
  case round =>
    obtain ⟨j, lv', hj, rfl, hd, hC⟩ := hrel
    clear hd3
    by_cases hlt : j < ks.length
    · have hkj := hkN.out _ (List.getElem_mem hlt)
      obtain ⟨vv, hvv⟩ := hkmf.out _ (List.getElem_mem hlt)
      have hlfk := ks_new hnd.out hlt
      have hstep := ks_lf hnd.out hlt
      have hix2 : idxP d ks[j] = j := hidx.out j hlt
      obtain ⟨kad, rfl, hkc⟩ := (hkr.out.chg hC.out hko.out).intAt (k := j) (by simpa using hlt)
      rw [List.getElem_map] at hkc
      have hkc : wr.cell? (kad.add j) = some (.int .i64 ((ks[j] : Nat) : Int)) := hkc
      have hfk : cutB d picks ks[j] = pickB (d.l.getD ks[j] []) (d.wt.getD ks[j] []) (picks.getD j 0) := by unfold cutB; rw [hix2]
      generalize ks[j] = k at *
      clear hix2
      obtain ⟨lf, hlf⟩ : ∃ lf, (fun n => !(ks.take j).contains n) = lf := ⟨_, rfl⟩
      have hlk : lf k = true := by rw [← hlf]; exact hlfk
      rw [hlf] at hd
      have hdd := hd.out
      have hstep2 : (fun n => !(ks.take (j + 1)).contains n) = fun n => lf n && !(n == k) := by rw [hstep, ← hlf]
      have hvk : mfL mf lf k = some vv := by unfold mfL; rw [hlk, hvv]; rfl
      obtain ⟨b, c, us, vs, hw, hne, rfl, ho, hgl, hdat⟩ := hdd.mfat hvk
      have hkw : k < d.wt.length := by rw [hwth.out]; exact hkj
      have hvs : vs = d.wt.getD k [] := by
        simp only [dG, List.getElem?_map, List.getElem?_range hkj, Option.map_some, hlk, if_true, Option.some.injEq] at hw
        exact hw.symm
      have hvm : vs.length ≤ 1000000000000 := by
        rw [hvs, List.getD_eq_getElem?_getD, List.getElem?_eq_getElem hkw]
        exact hvl.out k hkw
      have hul : us.length = vs.length := by simpa using ho.1
      have hlkp : Hid ((mfL mf lf k).getD (.slice none 0 0) = .slice (some ⟨b, 0, none⟩) vs.length c) := by
        show _ = _
        rw [hvk]
        rfl
      have hmp := Lib.hid hdd.map
      have hk64 : k < 9223372036854775808 := by omega
      have c1w : wr.cell? ⟨g, 1, none⟩ = some (.map (some mb)) := hdd.blk.cell 1
      have hdel0 : Hid (cutB d picks k = d.l.getD k [] → ∀ w4, IM Try.prog 3 w4 mb (dG d (cutB d picks) lf).l.length (fun n => if n = k then none else mfL mf lf n) → wr.mapTurned w4 mb →
          Hid (Dsk F w4 g gl cl mb pk lv' (mfL mf (fun n => !(ks.take (j + 1)).contains n)) (dG d (cutB d picks) (fun n => !(ks.take (j + 1)).contains n))) ∧ Hid (Chg S w3 w4)) := fun hf w4 hm ht => by
        have h3 := hdd.del (w' := w4) (k := k) hm ht
        rw [mfL_step] at h3
        have h4 := dG_step0 d (cutB d picks) lf k hlk hf
        rw [hstep2, ← h4]
        exact ⟨h3, hC.out.then_ (Dsk.mchg ht) (fun i _ hi => by cases hi; exact hS.out.2.2)⟩
      have hdel1 : Hid (∀ (bb : List UInt8) (u : Value), cutB d picks k = bb → RdT F 5 wr u (bvs bb) → bb.length = 512 → (∀ w4, IM Try.prog 3 w4 mb d.l.length (fun n => if n = k then none else mfL mf lf n) → (wr.drew.setCell ⟨gl, k, none⟩ u).mapTurned w4 mb →
          Hid (Dsk F w4 g gl cl mb pk (lv'.set k u) (mfL mf (fun n => !(ks.take (j + 1)).contains n)) (dG d (cutB d picks) (fun n => !(ks.take (j + 1)).contains n))) ∧ Hid (Chg S w3 w4)) ∧ IM Try.prog 3 (wr.drew.setCell ⟨gl, k, none⟩ u) mb d.l.length (mfL mf lf)) := fun bb u hf hu hb => by
        have hset0 := hdd.setl (k := k) (by rw [dG_len]; exact hkj) (u := u) (b := bb) hu hb
        have hset := hset0.chg (w' := wr.drew.setCell ⟨gl, k, none⟩ u) (S := fun _ => False) ⟨rfl, rfl, rfl, Nat.le_refl _, fun _ _ _ => rfl⟩ (fun _ _ h => h) (fun _ _ _ h => h) (fun _ _ _ h => h)
        have hl2 : (⟨(dG d (cutB d picks) lf).l.set k bb, (dG d (cutB d picks) lf).wt, true, d.wr, d.arm, d.picks⟩ : Dk).l.length = d.l.length := by rw [List.length_set, dG_len]
        refine ⟨fun w4 hm ht => ?_, by have := hset.map; rw [hl2] at this; exact this⟩
        have h3 := hset.del (w' := w4) (k := k) (by rw [hl2]; exact hm) ht
        rw [mfL_step] at h3
        have h4 := dG_step d (cutB d picks) lf k
        rw [hf] at h4
        rw [hstep2, ← h4]
        exact ⟨h3, (hC.out.drew.at_ hS.out.2.1 _).then_ (Dsk.mchg ht) (fun i _ hi => by cases hi; exact hS.out.2.2)⟩
      clear hstep hstep2 hlfk hvk hlf hd
      by_cases hp : j < picks.length
      · obtain ⟨pad, rfl, hpc⟩ := (hx3.out.chgN hC.out hxnh.out).intAt hp
        have hpg : picks.getD j 0 = picks[j] := by rw [List.getD_eq_getElem?_getD, List.getElem?_eq_getElem hp]; rfl
        rw [hpg] at hfk
        generalize picks[j] = p at *
        have hpi : (j : Int) < (picks.length : Int) := by omega
        have hm0 : ¬ ((vs.length : Int) + 1 = 0) := by omega
        have hqa : Int.tmod p ((vs.length : Int) + 1) < (vs.length : Int) + 1 := Int.tmod_lt_of_pos _ (by omega)
        have hqb : -((vs.length : Int) + 1) < Int.tmod p ((vs.length : Int) + 1) := Int.lt_tmod_of_pos _ (by omega)
        rcases (show Int.tmod p ((vs.length : Int) + 1) < 0 ∨ Int.tmod p ((vs.length : Int) + 1) = 0 ∨ 0 < Int.tmod p ((vs.length : Int) + 1) by omega) with hq | hq | hq
        · obtain ⟨K, hK⟩ : ∃ K : Nat, Int.tmod p ((vs.length : Int) + 1) = -(K : Int) := ⟨(-(Int.tmod p ((vs.length : Int) + 1))).toNat, by omega⟩
          rw [hK] at hq hqa hqb
          obtain ⟨q, hqe⟩ : ∃ q : Int, q = -(K : Int) := ⟨_, rfl⟩
          have hK0 : 0 < K := by omega
          have hKm : K ≤ vs.length := by omega
          obtain ⟨K2, hK2⟩ : ∃ K2 : Nat, K2 = vs.length + 1 - K := ⟨_, rfl⟩
          have hpe : Hid ((p % ((vs.length : Int) + 1)).toNat = K2) := by
            show _ = _
            rw [pick_neg hK hKm hK0, hK2]
            rfl
          rw [← hqe] at hK
          have hq0 : q < 0 := by omega
          have hK21 : 1 ≤ K2 := by omega
          have hK2m : K2 ≤ vs.length := by omega
          have hsum : q + ((vs.length : Int) + 1) = (K2 : Int) := by omega
          clear hq hqa hqb hK2 hqe hpg hKm hK0
          obtain ⟨K', rfl⟩ : ∃ K', K2 = K' + 1 := ⟨K2 - 1, by omega⟩
          have hK1 : K' < vs.length := by omega
          obtain ⟨u, hu⟩ : ∃ u, us[K']? = some u := ⟨_, List.getElem?_eq_getElem (by omega)⟩
          obtain ⟨bb, hbb⟩ : ∃ b, vs[K']? = some b := ⟨_, List.getElem?_eq_getElem hK1⟩
          have hf1 : cutB d picks k = bb := by
            rw [hfk, ← hvs]
            unfold pickB
            rw [hpe.out]
            show vs.getD K' _ = bb
            rw [List.getD_eq_getElem?_getD, hbb]
            rfl
          have hcu := own_cell ho hu
          have hur := hdat _ u bb hu hbb
          have hb512 : bb.length = 512 := hdd.vlen vs (List.mem_of_getElem? hw) bb (List.mem_of_getElem? hbb)
          obtain ⟨uA, uc, rfl⟩ := hur.shape
          have hur' := hur
          rw [bvs_length, hb512] at hcu hur'
          obtain ⟨hd5, hm5⟩ := hdel1.out bb (.slice uA 512 uc) hf1 hur' hb512
          have hd5h := Lib.hid hd5
          have hm5h := Lib.hid hm5
          have c0 : wr.cell? ⟨g, 0, none⟩ = some (.slice (some ⟨gl, 0, none⟩) d.l.length cl) := by
            have := hdd.blk.cell 0
            rw [dG_len] at this
            exact this
          have c1r : (wr.drew.setCell ⟨gl, k, none⟩ (.slice uA 512 uc)).cell? ⟨g, 1, none⟩ = some (.map (some mb)) := (hdd.blk.drew.far hdd.gne.1 _).cell 1
          have hfz : wr.frozen? ⟨gl, k, none⟩ = false := World.ownsRow.frozenAt hdd.row _
          obtain ⟨u0, hu0⟩ : ∃ u0, wr.cell? ⟨gl, k, none⟩ = some u0 := ⟨_, own_cell hdd.row (List.getElem?_eq_getElem (by rw [hdd.lvl, dG_len]; exact hkj))⟩
          have hkl : (k : Int) < (d.l.length : Int) := by omega
          have hmw : IntKind.i64.wrap ((K' : Int) + 1 - 1) = (K' : Int) := by rw [IntKind.wrap_i64]; omega
          have hmw2 : IntKind.i64.wrap (K' : Int) = (K' : Int) := by rw [IntKind.wrap_i64]; omega
          have hmlt : (K' : Int) < (vs.length : Int) := by omega
          clear hdel0 hdel1 hd5 hm5 hur hur' hdat hu hbb hf1 hb512 hpe hw hdd hfk ho hvs
          go_wp2_with (at_lookup; refine wpList_im_lookup rfl rfl Try.underlying3 Try.underlying79 (zero_sl _) hmp.out rfl rfl hk64 hlkp ?_)
          go_still_tail 11, (by kernel_rfl)
          change wpList _ _ _ _ _ wr.drew
          generalize hwd : wr.drew = wd at *
          have hfz2 : wd.frozen? ⟨gl, k, none⟩ = false := by rw [← hwd]; exact hfz
          have hcg2 : wd.cell? ⟨gl, k, none⟩ = some u0 := by rw [← hwd]; exact hu0
          clear hwd hfz hu0 c0 hcu hmw hmw2 hmlt c1w hkc hmp hlkp
          go_wp2_with (at_delete; refine wpList_im_delete rfl rfl Try.underlying3 Try.underlying79 hm5h.out rfl rfl hk64 ?_; intro w4 hm4 ht4)
          obtain ⟨hd4, hC4⟩ := hd5h.out w4 hm4 ht4
          clear hm4 ht4 hd5h hm5h c1r hfz2 hcg2
          go_wp2
          go_roundw
          case rel => exact ⟨j + 1, _, by omega, by go_num, hd4, hC4⟩
          case measure => simp [RowKit.intOf]; omega
        · have hpe : (p % ((vs.length : Int) + 1)) = ((0 : Nat) : Int) := pick_pos hq (Nat.zero_le _)
          have hf0 : Hid (cutB d picks k = d.l.getD k []) := by
            show _ = _
            rw [hfk, ← hvs]
            unfold pickB
            rw [hpe]
            rfl
          clear hpe hfk hqa hqb hpg hdd ho hdat hw hvs
          go_wp2_with (first | (at_lookup; refine wpList_im_lookup rfl rfl Try.underlying3 Try.underlying79 (zero_sl _) hmp.out rfl rfl hk64 hlkp ?_) | (at_delete; refine wpList_im_delete rfl rfl Try.underlying3 Try.underlying79 hmp.out rfl rfl hk64 ?_; intro w4 hm4 ht4))
          obtain ⟨hd4, hC4⟩ := hdel0.out hf0.out w4 hm4 ht4
          clear hm4 ht4 hdel0 hdel1 hmp hlkp
          go_wp2
          go_roundw
          case rel => exact ⟨j + 1, lv', by omega, by go_num, hd4, hC4⟩
          case measure => simp [RowKit.intOf]; omega
        · obtain ⟨K, hK⟩ : ∃ K : Nat, Int.tmod p ((vs.length : Int) + 1) = (K : Int) := ⟨(Int.tmod p ((vs.length : Int) + 1)).toNat, by omega⟩
          rw [hK] at hq hqa hqb
          have hK0 : 1 ≤ K := by omega
          have hKm : K ≤ vs.length := by omega
          have hpe : Hid ((p % ((vs.length : Int) + 1)).toNat = K) := by
            show _ = _
            rw [pick_pos hK hKm]
            rfl
          clear hq hqa hqb hpg
          obtain ⟨K', rfl⟩ : ∃ K', K = K' + 1 := ⟨K - 1, by omega⟩
          have hK1 : K' < vs.length := by omega
          obtain ⟨u, hu⟩ : ∃ u, us[K']? = some u := ⟨_, List.getElem?_eq_getElem (by omega)⟩
          obtain ⟨bb, hbb⟩ : ∃ b, vs[K']? = some b := ⟨_, List.getElem?_eq_getElem hK1⟩
          have hf1 : cutB d picks k = bb := by
            rw [hfk, ← hvs]
            unfold pickB
            rw [hpe.out]
            show vs.getD K' _ = bb
            rw [List.getD_eq_getElem?_getD, hbb]
            rfl
          have hcu := own_cell ho hu
          have hur := hdat _ u bb hu hbb
          have hb512 : bb.length = 512 := hdd.vlen vs (List.mem_of_getElem? hw) bb (List.mem_of_getElem? hbb)
          obtain ⟨uA, uc, rfl⟩ := hur.shape
          have hur' := hur
          rw [bvs_length, hb512] at hcu hur'
          obtain ⟨hd5, hm5⟩ := hdel1.out bb (.slice uA 512 uc) hf1 hur' hb512
          have hd5h := Lib.hid hd5
          have hm5h := Lib.hid hm5
          have c0 : wr.cell? ⟨g, 0, none⟩ = some (.slice (some ⟨gl, 0, none⟩) d.l.length cl) := by
            have := hdd.blk.cell 0
            rw [dG_len] at this
            exact this
          have c1r : (wr.drew.setCell ⟨gl, k, none⟩ (.slice uA 512 uc)).cell? ⟨g, 1, none⟩ = some (.map (some mb)) := (hdd.blk.drew.far hdd.gne.1 _).cell 1
          have hfz : wr.frozen? ⟨gl, k, none⟩ = false := World.ownsRow.frozenAt hdd.row _
          obtain ⟨u0, hu0⟩ : ∃ u0, wr.cell? ⟨gl, k, none⟩ = some u0 := ⟨_, own_cell hdd.row (List.getElem?_eq_getElem (by rw [hdd.lvl, dG_len]; exact hkj))⟩
          have hkl : (k : Int) < (d.l.length : Int) := by omega
          have hmw : IntKind.i64.wrap ((K' : Int) + 1 - 1) = (K' : Int) := by rw [IntKind.wrap_i64]; omega
          have hmw2 : IntKind.i64.wrap (K' : Int) = (K' : Int) := by rw [IntKind.wrap_i64]; omega
          have hmlt : (K' : Int) < (vs.length : Int) := by omega
          clear hdel0 hdel1 hd5 hm5 hur hur' hdat hu hbb hf1 hb512 hpe hw hdd hfk ho hvs
          go_wp2_with (at_lookup; refine wpList_im_lookup rfl rfl Try.underlying3 Try.underlying79 (zero_sl _) hmp.out rfl rfl hk64 hlkp ?_)
          go_still_tail 11, (by kernel_rfl)
          change wpList _ _ _ _ _ wr.drew
          generalize hwd : wr.drew = wd at *
          have hfz2 : wd.frozen? ⟨gl, k, none⟩ = false := by rw [← hwd]; exact hfz
          have hcg2 : wd.cell? ⟨gl, k, none⟩ = some u0 := by rw [← hwd]; exact hu0
          clear hwd hfz hu0 c0 hcu hmw hmw2 hmlt c1w hkc hmp hlkp
          go_wp2_with (at_delete; refine wpList_im_delete rfl rfl Try.underlying3 Try.underlying79 hm5h.out rfl rfl hk64 ?_; intro w4 hm4 ht4)
          obtain ⟨hd4, hC4⟩ := hd5h.out w4 hm4 ht4
          clear hm4 ht4 hd5h hm5h c1r hfz2 hcg2
          go_wp2
          go_roundw
          case rel => exact ⟨j + 1, _, by omega, by go_num, hd4, hC4⟩
          case measure => simp [RowKit.intOf]; omega
      · have hpi : ¬ ((j : Int) < (picks.length : Int)) := by omega
        have hf0 : Hid (cutB d picks k = d.l.getD k []) := by
          show _ = _
          rw [hfk, List.getD_eq_getElem?_getD (l := picks), List.getElem?_eq_none (by omega)]
          unfold pickB
          rw [show ((none : Option Int).getD 0) % (((d.wt.getD k []).length : Int) + 1) = 0 by simp]
          rfl
        clear hfk hdd ho hdat hw hvs
        go_wp2_with (first | (at_lookup; refine wpList_im_lookup rfl rfl Try.underlying3 Try.underlying79 (zero_sl _) hmp.out rfl rfl hk64 hlkp ?_) | (at_delete; refine wpList_im_delete rfl rfl Try.underlying3 Try.underlying79 hmp.out rfl rfl hk64 ?_; intro w4 hm4 ht4))
        obtain ⟨hd4, hC4⟩ := hdel0.out hf0.out w4 hm4 ht4
        clear hm4 ht4 hdel0 hdel1 hmp hlkp
        go_wp2
        go_roundw
        case rel => exact ⟨j + 1, lv', by omega, by go_num, hd4, hC4⟩
        case measure => simp [RowKit.intOf]; omega
    · obtain rfl : j = ks.length := by omega
      have hfin : Hid (WroteF F w S g (cutD d picks) wr) := by
        have h := hd.out
        rw [List.take_length, dG_end d picks _ hfull.out] at h
        refine ⟨_, ⟨gl, cl, mb, pk, lv', _, h, fun _ => Iff.rfl⟩, hC3.out.then_ hC.out (fun _ _ h => h), ?_⟩
        rintro k (rfl | rfl | rfl | ⟨i, v, hj, hv⟩)
        · exact .inl hS.out.1
        · exact .inl hS.out.2.1
        · exact .inl hS.out.2.2
        · exact .inl ((hsh.out k).2 (.inr (.inr (.inr ⟨i, v, (mfL_some hj).2, hv⟩))))
      clear hd hC
      go_wp2
      go_end0
      exact ⟨rfl, hfin.out⟩
end Go.Proofs.Ytefbmbfhhhjgkaa
