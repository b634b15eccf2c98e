/- Write. -/
import Derived.Test.YtefbmbfhhhjgkaaBv
namespace Go.Proofs.Ytefbmbfhhhjgkaa
open Go.RowKit
variable {F : Nat → Prop}
theorem wp_im_update {P : Program} {kt mt et : TypeId} {w : World} {b N : Nat} {f : Nat → Option Value} {o : Oper} {a : Act} {K : Act → World → Prop} {Q : Exit → Act → World → Prop} {m x v : Operand} (hop : o.op = Op.mapUpdate mt m x v) (hkt : P.underlying kt = some (.int .i64)) (ht : P.underlying mt = some (.map kt et))
    (hown : IM P kt w b N f) (hm : a.eval m = .map (some b)) {k : Nat} (hx : a.eval x = .int .i64 (k : Int)) (hN : N < 9223372036854775807) (hk : k < N) {u : Value} (hv : a.eval v = u)
    (hK : ∀ w', IM P kt w' b N (fun j => if j = k then some u else f j) → w.mapTurned w' b → K (a.put o.dst undef) w') : o.wp P a w K Q := by
  obtain ⟨w', hrun, h1, h2⟩ := hown.run_update hkt ht hN hk u
  unfold Oper.wp
  simp [execOp, hop, hm, hx, hv, hrun, Result.andThen]
  exact hK w' h1 h2
def winc (x : Int) : Int := wrap64 (x + 1)
def addD (d : Dk) (n : Nat) (b : List UInt8) : Dk := ⟨d.l, d.wt.set n (d.wt.getD n [] ++ [b]), d.off, winc d.wr, d.arm, d.picks⟩
def armed (d : Dk) (a : Int) : Dk := ⟨d.l, d.wt, d.off, d.wr, a, d.picks⟩
def writeP (d : Dk) (n : Int) (b : List UInt8) : Int × Dk :=
  if askP d n ≠ 0 then (askP d n, d) else if b.length ≠ 512 then (1, d) else if d.arm = 1 then (6, cutD (armed d 0) d.picks) else (0, addD (armed d (if 0 < d.arm then d.arm - 1 else d.arm)) n.toNat b)
theorem WroteF.refl {w : World} {g : Nat} {d : Dk} {S : Nat → Prop} (h : DKF F w g d S) : WroteF F w S g d w := ⟨S, h, Chg.refl _ _, fun _ h => .inl h⟩
theorem Dsk.row_of {w : World} {g gl cl mb : Nat} {pk : Value} {lv : List Value} {mf : Nat → Option Value} {d : Dk} (h : Dsk F w g gl cl mb pk lv mf d) {k : Nat} {vs : List (List UInt8)} (hvs : d.wt[k]? = some vs) :
    ∃ A c us, (mf k).getD (.slice none 0 0) = .slice A vs.length c ∧ w.ownsRow 0 63 1 (.slice A vs.length c) vs.length us ∧ (∀ (i : Nat) (u : Value) (x : List UInt8), us[i]? = some u → vs[i]? = some x → RdT F 5 w u (bvs x)) ∧ (∀ j, (Value.slice A vs.length c).ownBlock = some j → j ≠ g ∧ j ≠ mb ∧ j < w.heap.size ∧ foot g gl mb mf j) := by
  rcases h.ver k vs hvs with ⟨rfl, h2⟩ | ⟨h1, b, c, us, h2, h3, h4, h5⟩
  · exact ⟨none, 0, [], by rw [h2]; rfl, World.ownsRow_nil _ _ _ _, fun i u x h => by simp at h, fun j hj => by simp [Value.ownBlock] at hj⟩
  · refine ⟨some ⟨b, 0, none⟩, c, us, by rw [h2]; rfl, h3, h5, fun j hj => ?_⟩
    have e : b = j := by simpa [Value.ownBlock] using hj
    subst e
    obtain ⟨n1, n2, n3, n4⟩ := h.vne h2 rfl
    exact ⟨n1, n3, n4, .inr (.inr (.inr ⟨k, _, h2, rfl⟩))⟩
theorem Dsk.still {w w' : World} {g gl cl mb : Nat} {pk : Value} {lv : List Value} {mf : Nat → Option Value} {d : Dk} (h : Dsk F w g gl cl mb pk lv mf d) (hb : Below w.heap.size w w') : Dsk F w' g gl cl mb pk lv mf d :=
  h.chg (S := fun k => w.heap.size ≤ k) ((Chg.of_below hb).mono (fun _ _ h => h)) (fun k hk => Nat.not_le.2 (h.lt hk)) (fun k cs hk => Nat.not_le.2 hk.lt) (fun k cs hk => Nat.not_le.2 hk.lt)
theorem write_fin {wq w1 wa w2 w3 : World} {g gl cl mb : Nat} {pk : Value} {lv : List Value} {mf : Nat → Option Value} {d : Dk} {S : Nat → Prop} (hq : Dsk F wq g gl cl mb pk lv mf d) (hs : ∀ k, S k ↔ foot g gl mb mf k) {k : Nat} (hk : k < d.l.length) {vs : List (List UInt8)} (hvs : d.wt[k]? = some vs)
    {A : Option Addr} {c : Nat} {us : List Value} (hv : (mf k).getD (.slice none 0 0) = .slice A vs.length c) (hul : us.length = vs.length) (hus : ∀ (i : Nat) (u : Value) (x : List UInt8), us[i]? = some u → vs[i]? = some x → RdT F 5 wq u (bvs x))
    (hvb : ∀ j, (Value.slice A vs.length c).ownBlock = some j → j ≠ g ∧ j ≠ mb ∧ j < wq.heap.size ∧ foot g gl mb mf j)
    {r : Value} {b : List UInt8} (hor : Own8 w1 r b) (hrF : ∀ j, r.ownBlock = some j → F j) (hB1 : Below wq.heap.size wq w1) (hb : b.length = 512) (hwa : w1.alloc (.cells #[r] 63) = wa) {v' : Value} {n' : Nat}
    (hown : w2.ownsRow 0 63 1 v' n' (us ++ [r])) (hn' : n' = vs.length + 1) (hg : wa.grownBy w2 (Value.slice A vs.length c).ownBlock) (hat : v'.ownBlock = (Value.slice A vs.length c).ownBlock ∨ v'.ownBlock = some wa.heap.size)
    (hm : IM Try.prog 3 w3 mb d.l.length (fun j => if j = k then some v' else mf j)) (ht : w2.mapTurned w3 mb) :
    Dsk F w3 g gl cl mb pk lv (fun j => if j = k then some v' else mf j) ⟨d.l, d.wt.set k (vs ++ [b]), d.off, d.wr, d.arm, d.picks⟩ ∧ Chg S wq w3 ∧ ∀ j, foot g gl mb (fun j => if j = k then some v' else mf j) j → S j ∨ wq.heap.size ≤ j := by
  subst hn'
  have hBa : Below wq.heap.size wq wa := by rw [← hwa]; exact hB1.alloc hB1.size _
  have hqa := hq.still hBa
  have hra : RdT F 5 wa r (bvs b) := by rw [← hwa]; exact (RdT.of_own hor hrF).alloc _
  refine ⟨hqa.addv hk hv hvs hown (fun i u y h1 h2 => ?_) hg hat hm ht hb, ?_, ?_⟩
  · rcases Nat.lt_or_ge i vs.length with hi | hi
    · rw [List.getElem?_append_left (by omega)] at h1
      rw [List.getElem?_append_left hi] at h2
      exact (hus i u y h1 h2).below hBa
    · rw [List.getElem?_append_right (by omega)] at h1
      rw [List.getElem?_append_right hi] at h2
      have hi1 := (List.getElem?_eq_some_iff.1 h2).1
      simp at hi1
      have e : i = vs.length := by omega
      subst e
      rw [hul, Nat.sub_self] at h1
      rw [Nat.sub_self] at h2
      cases h1
      cases h2
      exact hra
  · have h1 : Chg S wq w2 := ((Chg.of_below hBa : Chg S wq wa)).grown hg (fun j hj _ => (hs j).2 (hvb j hj).2.2.2)
    exact h1.then_ (Dsk.mchg ht) (fun i _ hi => by cases hi; exact (hs mb).2 (.inr (.inr (.inl rfl))))
  · rintro j (rfl | rfl | rfl | ⟨i, v, hi, hv2⟩)
    · exact .inl ((hs j).2 (.inl rfl))
    · exact .inl ((hs j).2 (.inr (.inl rfl)))
    · exact .inl ((hs j).2 (.inr (.inr (.inl rfl))))
    · dsimp only at hi
      by_cases e : i = k
      · rw [if_pos e] at hi
        cases hi
        rcases hat with h | h
        · exact .inl ((hs j).2 (hvb j (h ▸ hv2)).2.2.2)
        · rw [h] at hv2
          cases hv2
          exact .inr hBa.size
      · rw [if_neg e] at hi
        exact .inl ((hs j).2 (.inr (.inr (.inr ⟨i, v, hi, hv2⟩))))
set_option maxRecDepth 10000 in
set_option maxHeartbeats 4000000 in
theorem Write_callsF (w : World) (hF : ∀ k, w.heap.size ≤ k → F k) (g : Nat) (d : Dk) (S : Nat → Prop) (hd : DKF F w g d S) (n : Int) (x : Value) (b : List UInt8) (hx : Rd w x (bvs b)) (hxo : ∀ k, x.ownBlock = some k → ¬ S k) (hb : b.length ≤ 1000000000) (hl : d.l.length ≤ 16384) (hv : waitP d ≤ 1000000000) (ha : d.arm ≤ 9223372036854775807) (hpl : d.picks.length ≤ 1000000000) :
    Calls Try.prog 53 #[.pointer (some ⟨g, 0, none⟩), .int .i64 n, x] w fun e w' => e = .returned (.int .i64 (writeP d n b).1) ∧ WroteF F w S g (writeP d n b).2 w' := by
  have HA := Lib.hid (ask_callsF w g d S hd n)
  obtain ⟨xA, xc, rfl⟩ := hx.shape8
  unfold writeP
  by_cases h0 : askP d n = 0
  · rw [if_neg (by simp [h0])]
    rw [h0] at HA
    by_cases h1 : b.length = 512
    · rw [if_neg (by simp [h1])]
      obtain ⟨k, rfl, hk, hoff⟩ := askP_ok h0
      rw [Int.toNat_natCast]
      obtain ⟨i0, hi, hz0, hz1, hz2⟩ := info_parts Try.info_sl8
      have hdk := hd
      obtain ⟨gl, cl, mb, pk, lv, mf, hd, hs⟩ := hd
      have hs := Lib.hid hs
      have hwl : d.wt.length = d.l.length := hd.wtl
      have c4 : w.cell? ⟨g, 4, none⟩ = some (.int .i64 d.arm) := hd.blk.cell 4
      have c5 : w.cell? ⟨g, 5, none⟩ = some pk := hd.blk.cell 5
      have f4 := hd.blk.frozen 4
      have hlb := Lib.hid h1
      rw [h1] at hx hxo ⊢
      clear h1
      by_cases ha1 : d.arm = 1
      · rw [if_pos ha1]
        rw [ha1] at c4
        have hc4 : Chg (fun k => k = g) w (w.setCell ⟨g, 4, none⟩ (.int .i64 0)) := (Chg.refl (fun k => k = g) w).at_ rfl _
        have hpk1 := hd.pick.chg hc4 (fun k cs hk => hk.ne_ hd.blk (by decide))
        have hq0 : Dsk F (w.setCell ⟨g, 4, none⟩ (.int .i64 0)) g gl cl mb pk lv mf (armed d 0) := hd.put hc4 (hd.blk.set_ 4 _) hpk1
        have hCq0 : Chg S w (w.setCell ⟨g, 4, none⟩ (.int .i64 0)) := (Chg.refl S w).at_ ((hs.out g).2 (.inl rfl)) _
        obtain ⟨wq, hwq⟩ : ∃ wq, w.setCell ⟨g, 4, none⟩ (.int .i64 0) = wq := ⟨_, rfl⟩
        rw [hwq] at hq0 hCq0 hpk1
        have c4q : wq.cell? ⟨g, 4, none⟩ = some (.int .i64 0) := hq0.blk.cell 4
        have c5q : wq.cell? ⟨g, 5, none⟩ = some pk := hq0.blk.cell 5
        have hCut := Lib.hid (Cut_callsF wq g (armed d 0) S ⟨gl, cl, mb, pk, lv, mf, hq0, hs.out⟩ hoff hl (show waitP d ≤ 1000000000000 by omega) pk d.picks hpk1.1 (fun hne => hpk1.away (fun k cs hb hS => by rcases hq0.kind ((hs.out k).1 hS) hb with e | e <;> exact absurd e (by decide)) (ivs_ne hne)) (by omega))
        have hCqh := Lib.hid hCq0
        clear hdk hd c5 hoff h0 hx hc4 hq0 hCq0 hpk1 hv
        go_enter Try.func53, Try.ntmps53
        go_wp2_with fail
        refine HA.out.mono ?_
        rintro e w1 ⟨rfl, rfl⟩
        go_wp2_with fail
        refine hCut.out.mono ?_
        rintro e w2 ⟨rfl, hW2⟩
        have hWf := Lib.hid (WroteF.trans hCqh.out (fun k hk => .inl hk) hW2)
        clear hW2
        go_wp2
        go_ret
        exact ⟨rfl, hWf.out⟩
      · rw [if_neg ha1]
        by_cases ha0 : 0 < d.arm
        · rw [if_pos ha0]
          have hc4 : Chg (fun k => k = g) w (w.setCell ⟨g, 4, none⟩ (.int .i64 (d.arm - 1))) := (Chg.refl (fun k => k = g) w).at_ rfl _
          have hq0 : Dsk F (w.setCell ⟨g, 4, none⟩ (.int .i64 (d.arm - 1))) g gl cl mb pk lv mf ⟨d.l, d.wt, d.off, d.wr, d.arm - 1, d.picks⟩ := hd.put hc4 (hd.blk.set_ 4 _) (hd.pick.chg hc4 (fun k cs hk => hk.ne_ hd.blk (by decide)))
          have hCq0 : Chg S w (w.setCell ⟨g, 4, none⟩ (.int .i64 (d.arm - 1))) := (Chg.refl S w).at_ ((hs.out g).2 (.inl rfl)) _
          have hxq0 : Rd (w.setCell ⟨g, 4, none⟩ (.int .i64 (d.arm - 1))) (.slice xA 512 xc) (bvs b) := hx.chg hCq0 hxo
          obtain ⟨wq, hwq⟩ : ∃ wq, w.setCell ⟨g, 4, none⟩ (.int .i64 (d.arm - 1)) = wq := ⟨_, rfl⟩
          rw [hwq] at hq0 hCq0 hxq0
          have hq := hq0
          have hCq := hCq0
          have hxq := hxq0
          have c4q : wq.cell? ⟨g, 4, none⟩ = some (.int .i64 (d.arm - 1)) := hq.blk.cell 4
          have hqh := Lib.hid hq0
          have hCqh := Lib.hid hCq0
          have hxqh := Lib.hid hxq0
          have hne1 : ((d.arm - 1 : Int) == 0) = false := beq_eq_false_iff_ne.2 (by omega)
          clear hdk hd c5 hoff h0 hx hc4 hq0 hCq0 hxq0 hq hCq hxq
          go_enter Try.func53, Try.ntmps53
          go_wp2_with fail
          refine HA.out.mono ?_
          rintro e w1 ⟨rfl, rfl⟩
          go_wp2_with fail
          clear HA c4 f4 c4q hne1 hwq
          have hq := hqh.out
          have hCq := hCqh.out
          have hxq := hxqh.out
          clear hqh hCqh hxqh
          have hvs : d.wt[k]? = some (d.wt.getD k []) := getD_lt (by rw [hwl]; exact hk)
          have hvsl : (d.wt.getD k []).length ≤ 1000000000 := Nat.le_trans (waitP_le d (List.mem_of_getElem? hvs)) hv
          have hqd := hq.still (w' := wq.drew) ((Below.refl _ _).drew)
          have hxd : Rd wq.drew (.slice xA 512 xc) (bvs b) := hxq.drew
          obtain ⟨A, c, us, hgv, hrow, hus, hvb⟩ := hqd.row_of (k := k) hvs
          have hul : us.length = (d.wt.getD k []).length := by simpa using hrow.1
          have hFd : Hid (∀ k, wq.drew.heap.size ≤ k → F k) := fun k hk => hF k (Nat.le_trans hCq.drew.size hk)
          have hW0 : Hid (∀ w4, WroteF F wq.drew S g (addD (armed d (d.arm - 1)) k b) w4 → WroteF F w S g (addD (armed d (d.arm - 1)) k b) w4) := fun w4 h => WroteF.trans hCq.drew (fun k hk => .inl hk) h
          have hmapd := hqd.map
          have hmapd : IM Try.prog 3 wq.drew mb d.l.length mf := hmapd
          have hqdh := Lib.hid hqd
          have hwrd : Hid (∀ w4 mf', Dsk F w4 g gl cl mb pk lv mf' ⟨d.l, d.wt.set k (d.wt.getD k [] ++ [b]), d.off, d.wr, (d.arm - 1), d.picks⟩ → Chg S wq.drew w4 → (∀ j, foot g gl mb mf' j → S j ∨ wq.drew.heap.size ≤ j) → w4.cell? ⟨g, 3, none⟩ = some (.int .i64 d.wr) ∧ w4.frozen? ⟨g, 3, none⟩ = false ∧ WroteF F w S g (addD (armed d (d.arm - 1)) k b) (w4.setCell ⟨g, 3, none⟩ (.int .i64 (winc d.wr)))) := fun w4 mf' h1 h2 h3 => by
            have hc : Chg (fun k => k = g) w4 (w4.setCell ⟨g, 3, none⟩ (.int .i64 (winc d.wr))) := (Chg.refl (fun k => k = g) w4).at_ rfl _
            refine ⟨h1.blk.cell 3, h1.blk.frozen 3, hW0.out _ ⟨_, ⟨gl, cl, mb, pk, lv, mf', h1.put hc (h1.blk.set_ 3 _) (h1.pick.chg hc (fun k cs hk => hk.ne_ h1.blk (by decide))), fun _ => Iff.rfl⟩, h2.at_ ((hs.out g).2 (.inl rfl)) _, h3⟩⟩
          have hC0 : wq.drew.cell? ⟨g, 1, none⟩ = some (.map (some mb)) ∧ IM Try.prog 3 wq.drew mb d.l.length mf := ⟨hqd.blk.cell 1, hmapd⟩
          have hgblk := Lib.hid hqd.blk
          generalize hvse : d.wt.getD k [] = vs at *
          clear hW0 hqd hq hCq hxq hmapd hvse
          refine wp_mix_tail (fun W => W.cell? ⟨g, 1, none⟩ = some (.map (some mb)) ∧ IM Try.prog 3 W mb d.l.length mf) [12, 13, 14, 15] (by kernel_rfl) (by kernel_rfl) (by kernel_rfl) (by kernel_rfl) hC0 ?_
          generalize wq.drew = wd at *
          iterate 10 (refine mixq rfl rfl ?_ (fun w' hw' => Or.inl ?_) (fun K hK => ?_); rotate_left; (focus (have c1 := hw'.1; go_simp; rfl)); go_simp; refine hK _ ?_; clear hK K)
          refine mixq rfl rfl (.slice A vs.length c) (fun w' hw' => Or.inl ?_) (fun K hK => ?_)
          · have hlk := hw'.2.run_lookup (mt := 79) (et := 78) Try.underlying3 Try.underlying79 (zero_sl w') (k := k) (by omega)
            rw [hgv] at hlk
            go_simp
          go_simp
          refine hK _ ?_
          clear hK K
          iterate 1 (refine mixq rfl rfl ?_ (fun w' hw' => Or.inl ?_) (fun K hK => ?_); rotate_left; (focus (go_simp; rfl)); go_simp; refine hK _ ?_; clear hK K)
          refine mixl rfl rfl (fun K hK => ?_)
          go_simp
          refine (Clone8_calls wd (.slice xA 512 xc) b hxd hb).mono ?_
          rintro e w1 ⟨r, rfl, hor, hB1, hrf⟩
          have hsh := hor.shape
          rw [hlb.out] at hsh
          obtain ⟨rA, rc, rfl⟩ := hsh
          have b1 : w1.cell? ⟨g, 1, none⟩ = some (.map (some mb)) := (hB1.cell (p := ⟨g, 1, none⟩) hgblk.out.lt).trans hC0.1
          have m1 : IM Try.prog 3 w1 mb d.l.length mf := hC0.2.keep (hB1.block mb hC0.2.lt)
          refine hK _ _ (fun _ => ⟨b1, m1⟩) ?_
          clear hK K
          obtain ⟨wa, hwa⟩ : ∃ wa, w1.alloc (.cells #[.slice rA 512 rc] 63) = wa := ⟨_, rfl⟩
          have ba : wa.cell? ⟨g, 1, none⟩ = some (.map (some mb)) := by
            rw [← hwa]
            exact (((Below.refl _ _).alloc (Nat.le_refl _) _).cell (p := ⟨g, 1, none⟩) (Nat.lt_of_lt_of_le hgblk.out.lt hB1.size)).trans b1
          have ma : IM Try.prog 3 wa mb d.l.length mf := by rw [← hwa]; exact m1.alloc _
          have hra : Hid (Rd wa (.slice (some ⟨w1.heap.size, 0, none⟩) 1 1) [.slice rA 512 rc]) := by rw [← hwa]; exact rd_new w1 [.slice rA 512 rc] 63 1 rfl
          have hBa : Below wd.heap.size wd wa := by rw [← hwa]; exact hB1.alloc hB1.size _
          have hrowa : Hid (wa.ownsRow 0 63 1 (.slice A vs.length c) vs.length us) := World.ownsRow.kept (row := none) hrow ⟨hBa.os, hBa.tape, hBa.output, hBa.size, fun k hk _ => hBa.block k hk⟩ (by cases (Value.slice A vs.length c).ownBlock <;> simp)
          refine mixl rfl rfl (fun K hK => ?_)
          go_simp
          refine hK _ _ (fun _ => ⟨ba, ma⟩) ?_
          clear hK K
          refine mixl rfl rfl (fun K hK => ?_)
          refine wp_app _ rfl (us := [.slice rA 512 rc]) (base := 0) Try.underlying78 hi hz0 hz1 hz2 rfl hrowa.out rfl hra.out rfl (fun u hu => by rw [List.mem_singleton.1 hu]; rfl) ?_ ?_ (Nat.zero_le _) ?_
          · unfold maxLen; simp only [List.length_cons, List.length_nil]; omega
          · simp only [List.length_cons, List.length_nil]; omega
          intro v2 w2 hown hg hat
          obtain ⟨N2, A2, k2, hN2, rfl, hown2⟩ := own_hide hown
          clear hown
          have b2 : w2.cell? ⟨g, 1, none⟩ = some (.map (some mb)) := by
            rw [World.cell?_of_block (w := wa)]
            · exact ba
            · exact hg.block g (Nat.lt_of_lt_of_le hgblk.out.lt hBa.size) (fun e => (hvb g e.symm).1 rfl)
          have m2 : IM Try.prog 3 w2 mb d.l.length mf := ma.grown hg (fun e => (hvb mb e.symm).2.1 rfl)
          go_simp
          refine hK _ _ (fun _ => ⟨b2, m2⟩) ?_
          clear hK K
          refine mixl rfl rfl (fun K hK => ?_)
          refine wp_im_update (et := 78) rfl Try.underlying3 Try.underlying79 m2 rfl (k := k) rfl (by omega) hk rfl ?_
          intro w3 hm3 ht3
          go_simp
          refine hK _ _ (fun hf => (by cases hf)) (mix_nil ?_)
          clear hK K
          have hfin := write_fin hqdh.out hs.out hk hvs hgv hul hus hvb (b := b) hor (fun j hj => hFd.out j (hrf j hj)) hB1 hlb.out hwa hown2 hN2.out hg hat hm3 ht3
          obtain ⟨q1, q2, q3⟩ := hfin
          obtain ⟨c3, f3, hW⟩ := hwrd.out w3 _ q1 q2 q3
          have hWh := Lib.hid hW
          clear q1 q2 q3 hW hwrd
          unfold winc at hWh
          go_wp2
          go_ret
          exact ⟨rfl, hWh.out⟩
        · rw [if_neg ha0]
          have hq : Dsk F w g gl cl mb pk lv mf ⟨d.l, d.wt, d.off, d.wr, d.arm, d.picks⟩ := hd
          have hCq : Chg S w w := Chg.refl _ _
          have hxq := hx
          have hn0 : ¬ (d.arm > 0) := by omega
          clear hdk hd c5 hoff h0 hx
          go_enter Try.func53, Try.ntmps53
          go_wp2_with fail
          refine HA.out.mono ?_
          rintro e w1 ⟨rfl, rfl⟩
          go_wp2_with fail
          clear HA c4 f4
          have hvs : d.wt[k]? = some (d.wt.getD k []) := getD_lt (by rw [hwl]; exact hk)
          have hvsl : (d.wt.getD k []).length ≤ 1000000000 := Nat.le_trans (waitP_le d (List.mem_of_getElem? hvs)) hv
          have hqd := hq.still (w' := w.drew) ((Below.refl _ _).drew)
          have hxd : Rd w.drew (.slice xA 512 xc) (bvs b) := hxq.drew
          obtain ⟨A, c, us, hgv, hrow, hus, hvb⟩ := hqd.row_of (k := k) hvs
          have hul : us.length = (d.wt.getD k []).length := by simpa using hrow.1
          have hFd : Hid (∀ k, w.drew.heap.size ≤ k → F k) := fun k hk => hF k (Nat.le_trans hCq.drew.size hk)
          have hW0 : Hid (∀ w4, WroteF F w.drew S g (addD (armed d d.arm) k b) w4 → WroteF F w S g (addD (armed d d.arm) k b) w4) := fun w4 h => WroteF.trans hCq.drew (fun k hk => .inl hk) h
          have hmapd := hqd.map
          have hmapd : IM Try.prog 3 w.drew mb d.l.length mf := hmapd
          have hqdh := Lib.hid hqd
          have hwrd : Hid (∀ w4 mf', Dsk F w4 g gl cl mb pk lv mf' ⟨d.l, d.wt.set k (d.wt.getD k [] ++ [b]), d.off, d.wr, d.arm, d.picks⟩ → Chg S w.drew w4 → (∀ j, foot g gl mb mf' j → S j ∨ w.drew.heap.size ≤ j) → w4.cell? ⟨g, 3, none⟩ = some (.int .i64 d.wr) ∧ w4.frozen? ⟨g, 3, none⟩ = false ∧ WroteF F w S g (addD (armed d d.arm) k b) (w4.setCell ⟨g, 3, none⟩ (.int .i64 (winc d.wr)))) := fun w4 mf' h1 h2 h3 => by
            have hc : Chg (fun k => k = g) w4 (w4.setCell ⟨g, 3, none⟩ (.int .i64 (winc d.wr))) := (Chg.refl (fun k => k = g) w4).at_ rfl _
            refine ⟨h1.blk.cell 3, h1.blk.frozen 3, hW0.out _ ⟨_, ⟨gl, cl, mb, pk, lv, mf', h1.put hc (h1.blk.set_ 3 _) (h1.pick.chg hc (fun k cs hk => hk.ne_ h1.blk (by decide))), fun _ => Iff.rfl⟩, h2.at_ ((hs.out g).2 (.inl rfl)) _, h3⟩⟩
          have hC0 : w.drew.cell? ⟨g, 1, none⟩ = some (.map (some mb)) ∧ IM Try.prog 3 w.drew mb d.l.length mf := ⟨hqd.blk.cell 1, hmapd⟩
          have hgblk := Lib.hid hqd.blk
          generalize hvse : d.wt.getD k [] = vs at *
          clear hW0 hqd hq hCq hxq hmapd hvse
          refine wp_mix_tail (fun W => W.cell? ⟨g, 1, none⟩ = some (.map (some mb)) ∧ IM Try.prog 3 W mb d.l.length mf) [12, 13, 14, 15] (by kernel_rfl) (by kernel_rfl) (by kernel_rfl) (by kernel_rfl) hC0 ?_
          generalize w.drew = wd at *
          iterate 10 (refine mixq rfl rfl ?_ (fun w' hw' => Or.inl ?_) (fun K hK => ?_); rotate_left; (focus (have c1 := hw'.1; go_simp; rfl)); go_simp; refine hK _ ?_; clear hK K)
          refine mixq rfl rfl (.slice A vs.length c) (fun w' hw' => Or.inl ?_) (fun K hK => ?_)
          · have hlk := hw'.2.run_lookup (mt := 79) (et := 78) Try.underlying3 Try.underlying79 (zero_sl w') (k := k) (by omega)
            rw [hgv] at hlk
            go_simp
          go_simp
          refine hK _ ?_
          clear hK K
          iterate 1 (refine mixq rfl rfl ?_ (fun w' hw' => Or.inl ?_) (fun K hK => ?_); rotate_left; (focus (go_simp; rfl)); go_simp; refine hK _ ?_; clear hK K)
          refine mixl rfl rfl (fun K hK => ?_)
          go_simp
          refine (Clone8_calls wd (.slice xA 512 xc) b hxd hb).mono ?_
          rintro e w1 ⟨r, rfl, hor, hB1, hrf⟩
          have hsh := hor.shape
          rw [hlb.out] at hsh
          obtain ⟨rA, rc, rfl⟩ := hsh
          have b1 : w1.cell? ⟨g, 1, none⟩ = some (.map (some mb)) := (hB1.cell (p := ⟨g, 1, none⟩) hgblk.out.lt).trans hC0.1
          have m1 : IM Try.prog 3 w1 mb d.l.length mf := hC0.2.keep (hB1.block mb hC0.2.lt)
          refine hK _ _ (fun _ => ⟨b1, m1⟩) ?_
          clear hK K
          obtain ⟨wa, hwa⟩ : ∃ wa, w1.alloc (.cells #[.slice rA 512 rc] 63) = wa := ⟨_, rfl⟩
          have ba : wa.cell? ⟨g, 1, none⟩ = some (.map (some mb)) := by
            rw [← hwa]
            exact (((Below.refl _ _).alloc (Nat.le_refl _) _).cell (p := ⟨g, 1, none⟩) (Nat.lt_of_lt_of_le hgblk.out.lt hB1.size)).trans b1
          have ma : IM Try.prog 3 wa mb d.l.length mf := by rw [← hwa]; exact m1.alloc _
          have hra : Hid (Rd wa (.slice (some ⟨w1.heap.size, 0, none⟩) 1 1) [.slice rA 512 rc]) := by rw [← hwa]; exact rd_new w1 [.slice rA 512 rc] 63 1 rfl
          have hBa : Below wd.heap.size wd wa := by rw [← hwa]; exact hB1.alloc hB1.size _
          have hrowa : Hid (wa.ownsRow 0 63 1 (.slice A vs.length c) vs.length us) := World.ownsRow.kept (row := none) hrow ⟨hBa.os, hBa.tape, hBa.output, hBa.size, fun k hk _ => hBa.block k hk⟩ (by cases (Value.slice A vs.length c).ownBlock <;> simp)
          refine mixl rfl rfl (fun K hK => ?_)
          go_simp
          refine hK _ _ (fun _ => ⟨ba, ma⟩) ?_
          clear hK K
          refine mixl rfl rfl (fun K hK => ?_)
          refine wp_app _ rfl (us := [.slice rA 512 rc]) (base := 0) Try.underlying78 hi hz0 hz1 hz2 rfl hrowa.out rfl hra.out rfl (fun u hu => by rw [List.mem_singleton.1 hu]; rfl) ?_ ?_ (Nat.zero_le _) ?_
          · unfold maxLen; simp only [List.length_cons, List.length_nil]; omega
          · simp only [List.length_cons, List.length_nil]; omega
          intro v2 w2 hown hg hat
          obtain ⟨N2, A2, k2, hN2, rfl, hown2⟩ := own_hide hown
          clear hown
          have b2 : w2.cell? ⟨g, 1, none⟩ = some (.map (some mb)) := by
            rw [World.cell?_of_block (w := wa)]
            · exact ba
            · exact hg.block g (Nat.lt_of_lt_of_le hgblk.out.lt hBa.size) (fun e => (hvb g e.symm).1 rfl)
          have m2 : IM Try.prog 3 w2 mb d.l.length mf := ma.grown hg (fun e => (hvb mb e.symm).2.1 rfl)
          go_simp
          refine hK _ _ (fun _ => ⟨b2, m2⟩) ?_
          clear hK K
          refine mixl rfl rfl (fun K hK => ?_)
          refine wp_im_update (et := 78) rfl Try.underlying3 Try.underlying79 m2 rfl (k := k) rfl (by omega) hk rfl ?_
          intro w3 hm3 ht3
          go_simp
          refine hK _ _ (fun hf => (by cases hf)) (mix_nil ?_)
          clear hK K
          have hfin := write_fin hqdh.out hs.out hk hvs hgv hul hus hvb (b := b) hor (fun j hj => hFd.out j (hrf j hj)) hB1 hlb.out hwa hown2 hN2.out hg hat hm3 ht3
          obtain ⟨q1, q2, q3⟩ := hfin
          obtain ⟨c3, f3, hW⟩ := hwrd.out w3 _ q1 q2 q3
          have hWh := Lib.hid hW
          clear q1 q2 q3 hW hwrd
          unfold winc at hWh
          go_wp2
          go_ret
          exact ⟨rfl, hWh.out⟩
    · rw [if_pos h1]
      have hW := Lib.hid (WroteF.refl hd)
      have hne : ((b.length : Int) == 512) = false := beq_eq_false_iff_ne.2 (by omega)
      have hne2 : ((b.length : Int) != 512) = true := by rw [bne_iff_ne]; omega
      clear h1 h0 hx hxo
      generalize b.length = L at *
      go_enter Try.func53, Try.ntmps53
      go_wp2_with fail
      refine HA.out.mono ?_
      rintro e w1 ⟨rfl, rfl⟩
      go_wp2
      go_ret
      exact ⟨rfl, hW.out⟩
  · rw [if_pos h0]
    have hW := Lib.hid (WroteF.refl hd)
    have hne : ((askP d n : Int) == 0) = false := beq_eq_false_iff_ne.2 h0
    have hne2 : ((askP d n : Int) != 0) = true := by rw [bne_iff_ne]; exact h0
    generalize askP d n = a at *
    clear h0 hx hxo
    generalize b.length = L at *
    go_enter Try.func53, Try.ntmps53
    go_wp2_with fail
    refine HA.out.mono ?_
    rintro e w1 ⟨rfl, rfl⟩
    go_wp2
    go_ret
    exact ⟨rfl, hW.out⟩
end Go.Proofs.Ytefbmbfhhhjgkaa
