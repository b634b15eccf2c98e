/- The log: Commit, Abort. Printed by genwv.py. -/
import Derived.Test.YtefbmbfhhhjgkaaWu
namespace Go.Proofs.Ytefbmbfhhhjgkaa
open Go.RowKit
variable {F : Nat → Prop}
theorem LO.pend {w : World} {gl g : Nat} {x : Lk} {S : Nat → Prop} (h : LO w gl g x S F) (p : Int) : LO (w.setCell ⟨gl, 2, none⟩ (.int .i64 p)) gl g ⟨x.d, x.wt, p, x.op⟩ S F ∧ Chg (fun k => k = gl) w (w.setCell ⟨gl, 2, none⟩ (.int .i64 p)) := by
  obtain ⟨mb, mf, Sd, hL, hs⟩ := h
  have hc : Chg (fun k => k = gl) w (w.setCell ⟨gl, 2, none⟩ (.int .i64 p)) := chg_set ⟨gl, 2, none⟩ _
  have hne : ∀ k t cs, Blk w k t cs → t ≠ 74 → ¬ k = gl := fun k t cs hb ht => hb.ne_ hL.blk ht
  exact ⟨⟨mb, mf, Sd, ⟨hL.blk.set_ 2 _, hL.dk.chgT hc (fun j hj e => hL.ng (e ▸ hj)) (fun k cs hb => hne k _ cs hb (by decide)) (fun k cs hb => hne k _ cs hb (by decide)), hL.mp.chg hc (fun e => hL.ne e.symm) (fun k cs hb => hne k _ cs hb (by decide)), hL.ng, hL.nm⟩, hs⟩, hc⟩
def syncOr (N : Nat) (x : Lk) (t : Tk) : Int × Lk := if fitsP N x t = true then (0, x) else lsyncP x
def commitP (N : Nat) (x : Lk) (t : Tk) : Int × Lk × Tk :=
  if t.ov = true then (15, x, t) else if x.d.off = true then (6, ⟨x.d, x.wt, x.pn, false⟩, ⟨t.m, true⟩) else
    if (syncOr N x t).1 ≠ 0 then ((syncOr N x t).1, ⟨(syncOr N x t).2.d, (syncOr N x t).2.wt, (syncOr N x t).2.pn, false⟩, ⟨t.m, true⟩)
    else (0, ⟨(syncOr N x t).2.d, mergeF (syncOr N x t).2.wt t.m, (syncOr N x t).2.pn + 1, false⟩, ⟨t.m, true⟩)
def CommitOut (w : World) (S F ST FT : Nat → Prop) (gl g gt N : Nat) (o : Int × Lk × Tk) (e : Ending) (w' : World) : Prop :=
  e = .returned (.int .i64 o.1) ∧ ∃ S' F', LO w' gl g o.2.1 S' F' ∧ TX w' gt gl N o.2.2 ST FT ∧ Chg (fun k => S k ∨ ST k) w w' ∧ (∀ k, S' k → S k ∨ w.heap.size ≤ k) ∧ ∀ k, F' k → F k ∨ FT k ∨ w.heap.size ≤ k
theorem lsyncP_pn (x : Lk) (h : 0 ≤ x.pn ∧ x.pn ≤ 1000000000) : 0 ≤ (lsyncP x).2.pn ∧ (lsyncP x).2.pn ≤ 1000000000 := by
  unfold lsyncP
  split
  · exact h
  · split
    · exact ⟨Int.le_refl _, by show (0 : Int) ≤ _; omega⟩
    · split
      · exact ⟨Int.le_refl _, by show (0 : Int) ≤ _; omega⟩
      · exact h
theorem lsyncP_len {N M : Nat} {x : Lk} (hf : Fit N M x.d) : (lsyncP x).2.d.l.length = N := by
  unfold lsyncP
  split
  · exact hf.dl
  · split
    · exact hf.dl
    · split
      · exact (Gr.lsyncW N _ x.wt M x.d hf).dl
      · exact (Gr.lsyncW N _ x.wt M x.d hf).dl
set_option maxRecDepth 10000 in
set_option maxHeartbeats 16000000 in
theorem Commit_calls (w : World) {gl g gt N M : Nat} {x : Lk} {t : Tk} {S ST FT : Nat → Prop} (h : LO w gl g x S F) (ht : TX w gt gl N t ST FT) (hd : ∀ k, S k → ¬ ST k) (hf : Fit (N + 65) M x.d) (hM : M ≤ 800000000) (hN : N ≤ 16000) (hkl : (ksW N x.wt).length ≤ 63) (hp : 0 ≤ x.pn ∧ x.pn ≤ 1000000000) :
    Calls Try.prog 19 #[.pointer (some ⟨gt, 0, none⟩)] w (CommitOut w S F ST FT gl g gt N (commitP N x t)) := by
  obtain ⟨a0, a2, _, b0, b3, _, hne⟩ := txFacts h ht
  have hSl := fun k (hk : S k) => h.lt hk
  obtain ⟨o, ho⟩ : ∃ o, Hid (commitP N x t = o) := ⟨_, Lib.hid rfl⟩
  rw [ho.out]
  have hh := Lib.hid h
  have hth := Lib.hid ht
  have hdh := Lib.hid hd
  have hfh := Lib.hid hf
  have hSl := Lib.hid hSl
  have hMh := Lib.hid hM
  have hklh := Lib.hid hkl
  have hph := Lib.hid hp
  obtain ⟨Sd, hDO, _⟩ := h.disk
  have hO := Lib.hid (Off_callsO w g x.d Sd hDO)
  clear h ht hd hf hM hkl hp hDO
  cases hovv : t.ov with
  | true =>
    rw [hovv] at a2
    have hfin : Hid (∀ v, v = Value.int .i64 15 → CommitOut w S F ST FT gl g gt N o (.returned v) w) := fun v hv => by
      rw [← ho.out, hv]
      unfold commitP
      rw [if_pos hovv]
      exact ⟨rfl, S, F, hh.out, hth.out, Chg.refl _ _, fun _ h => .inl h, fun _ h => .inl h⟩
    clear ho hovv
    go_enter_defers Try.func19, Try.ntmps19
    go_wp2
    exact ⟨_, results_tmp rfl _ _ _, hfin.out _ rfl⟩
  | false =>
    rw [hovv] at a2
    have hov := Lib.hid hovv
    clear hovv
    cases hoff : x.d.off with
    | true =>
      rw [hoff] at hO
      have hfin : Hid (∀ w' v, v = Value.int .i64 6 → LO w' gl g ⟨x.d, x.wt, x.pn, false⟩ S F → TX w' gt gl N ⟨t.m, true⟩ ST FT → Chg (fun k => S k ∨ ST k) w w' → CommitOut w S F ST FT gl g gt N o (.returned v) w') := fun w' v hv e1 e2 e3 => by
        rw [← ho.out, hv]
        unfold commitP
        rw [if_neg (show ¬ (t.ov = true) by rw [hov.out]; decide), if_pos hoff]
        exact ⟨rfl, S, F, e1, e2, e3, fun _ h => .inl h, fun _ h => .inl h⟩
      clear ho hoff
      go_enter_defers Try.func19, Try.ntmps19
      go_wp2_with fail
      refine hO.out.mono ?_
      rintro e w1 ⟨rfl, rfl⟩
      clear hO
      go_wp2
      refine leaves_cons (f := 45) (args := #[.pointer (some ⟨gt, 0, none⟩)]) (by simp) (by simp [go_sem]) ?_
      refine (end_callsD .returning _ hh.out hth.out hdh.out).mono ?_
      rintro e u' w6 ⟨rfl, rfl, e1, e2, e3⟩
      rw [if_neg (by rw [hov.out]; decide)] at e1
      exact ⟨_, results_tmp rfl _ _ _, hfin.out w6 _ rfl e1 e2 e3⟩
    | false =>
      rw [hoff] at hO
      have hoffh := Lib.hid hoff
      have hFt := Lib.hid (fits_calls w hh.out hth.out hfh.out.dl (by omega))
      obtain ⟨y, hy⟩ : ∃ y, Hid (syncOr N x t = y) := ⟨_, Lib.hid rfl⟩
      have ho2 : Hid ((if y.1 ≠ 0 then (y.1, (⟨y.2.d, y.2.wt, y.2.pn, false⟩ : Lk), (⟨t.m, true⟩ : Tk)) else (0, ⟨y.2.d, mergeF y.2.wt t.m, y.2.pn + 1, false⟩, ⟨t.m, true⟩)) = o) := by
        show _ = _
        rw [← ho.out, ← hy.out]
        unfold commitP
        rw [if_neg (show ¬ (t.ov = true) by rw [hov.out]; decide), if_neg (show ¬ (x.d.off = true) by rw [hoff]; decide)]
      clear ho hoff
      cases hfit : fitsP N x t with
      | true =>
        rw [hfit] at hFt
        have hyx : y = (0, x) := by rw [← hy.out]; unfold syncOr; rw [if_pos hfit]
        subst hyx
        have ho3 : Hid (o = (0, ⟨x.d, mergeF x.wt t.m, x.pn + 1, false⟩, ⟨t.m, true⟩)) := by show _ = _; rw [← ho2.out]; rfl
        clear hy ho2 hfit
        go_enter_defers Try.func19, Try.ntmps19
        go_wp2_with fail
        refine hO.out.mono ?_
        rintro e w1 ⟨rfl, rfl⟩
        clear hO
        go_wp2_with fail
        refine hFt.out.mono ?_
        rintro e w2 ⟨rfl, hB2⟩
        clear hFt
        go_wp2_with fail
        obtain ⟨y, hyy⟩ : ∃ y, Hid (y = x) := ⟨_, Lib.hid rfl⟩
        obtain ⟨S1, hS1⟩ : ∃ S1, Hid (S1 = S) := ⟨_, Lib.hid rfl⟩
        obtain ⟨F1, hF1⟩ : ∃ F1, Hid (F1 = F) := ⟨_, Lib.hid rfl⟩
        have hLO2 : Hid (LO w2 gl g y S1 F1) := by show LO _ _ _ _ _ _; rw [hyy.out, hS1.out, hF1.out]; exact hh.out.below hB2
        have hTX2 := Lib.hid (hth.out.below hB2)
        have hdj : Hid (∀ k, S1 k → ¬ ST k) := by rw [hS1.out]; exact hdh.out
        have hyl : Hid (y.d.l.length = N + 65) := by show _ = _; rw [hyy.out]; exact hfh.out.dl
        have hyp : Hid (0 ≤ y.pn ∧ y.pn ≤ 1000000000) := by rw [hyy.out]; exact hph.out
        have hclose : Hid (∀ w' v, v = Value.int .i64 0 → LO w' gl g ⟨y.d, mergeF y.wt t.m, y.pn + 1, false⟩ S1 (fun k => F1 k ∨ FT k) → TX w' gt gl N ⟨t.m, true⟩ ST FT → Chg (fun k => S1 k ∨ ST k) w2 w' → CommitOut w S F ST FT gl g gt N o (.returned v) w') := fun w' v hv e1 e2 e3 => by
          rw [hyy.out, hS1.out, hF1.out] at e1
          rw [hS1.out] at e3
          rw [ho3.out, hv]
          refine ⟨rfl, S, _, e1, e2, ((Chg.of_below hB2 : Chg (fun _ => False) w w2).mono (fun _ _ h => h.elim)).then_ e3 (fun _ _ h => h), fun _ h => .inl h, fun k hk => ?_⟩
          rcases hk with hk | hk
          · exact .inl hk
          · exact .inr (.inl hk)
        clear hB2 ho3 hyy hS1 hF1 a0 a2 b0 b3 hne
        obtain ⟨mb, mx, Sd, hL, hs⟩ := hLO2.out
        obtain ⟨mt, mf, h1, h2, h3⟩ := hTX2.out
        have hmp : MBv F1 w2 mb N mx y.wt := by have := hL.mp; rwa [hyl.out, Nat.add_sub_cancel] at this
        have hmne : mb ≠ mt := fun e => hdj.out mb ((hs mb).2 (.inr (.inr rfl))) ((h2 mb).2 (.inr e))
        have hCp := Lib.hid (Copy_calls w2.drew (hmp.im.keep (w' := w2.drew) rfl) (h1.mp.im.keep (w' := w2.drew) rfl) hmne (by omega : N ≤ 16384))
        have hbT := Lib.hid h1.blk
        have hbL := Lib.hid hL.blk
        have hmrg : Hid (∀ w3, IM Try.prog 3 w3 mb N (mergeF mx mf) → Chg (fun k => k = mb) w2 w3 → LO w3 gl g ⟨y.d, mergeF y.wt t.m, y.pn, y.op⟩ S1 (fun k => F1 k ∨ FT k) ∧ TX w3 gt gl N t ST FT) := fun w3 hi hc => by
          have hne : ∀ k tt cs, Blk w2 k tt cs → ¬ k = mb := fun k tt cs hb => hmp.im.blk_ne hb
          have hSmb : S1 mb := (hs mb).2 (.inr (.inr rfl))
          refine ⟨⟨mb, mergeF mx mf, Sd, ⟨hL.blk.chg hc (hne _ _ _ hL.blk), (hL.dk.chgT hc (fun j hj e => hL.nm (e ▸ hj)) (fun k cs hb => hne k _ cs hb) (fun k cs hb => hne k _ cs hb)).wide (fun k hk => .inl hk) (fun k hk => ?_), ?_, hL.ng, hL.nm⟩, hs⟩, hTX2.out.chgT hc (fun k hk e => hdj.out k (e ▸ hSmb) hk) (fun k cs hb => hne k _ cs hb)⟩
          · rcases hk with hk | hk
            · exact Nat.lt_of_lt_of_le (hL.dk.fl k hk) hc.size
            · exact Nat.lt_of_lt_of_le (h3 k hk) hc.size
          · show MBv _ w3 mb (y.d.l.length - 65) (mergeF mx mf) (mergeF y.wt t.m)
            rw [hyl.out, Nat.add_sub_cancel]
            refine ⟨hi, fun k => ?_⟩
            rcases h1.mp.at_ k with ⟨a1, a2⟩ | ⟨bs, v, a1, a2, a3, a4⟩
            · have e1 : mergeF y.wt t.m k = y.wt k := by unfold mergeF; rw [a1]
              have e2 : mergeF mx mf k = mx k := by unfold mergeF; rw [a2]
              rw [e1, e2]
              rcases hmp.at_ k with b1 | ⟨bs, v, b1, b2, b3, b4⟩
              · exact .inl b1
              · exact .inr ⟨bs, v, b1, b2, b3, (b4.chg hc (fun k cs hb => hne k _ cs hb)).wider fun j hj _ => .inl hj⟩
            · have e1 : mergeF y.wt t.m k = some bs := by unfold mergeF; rw [a1]
              have e2 : mergeF mx mf k = some v := by unfold mergeF; rw [a2]
              exact .inr ⟨bs, v, e1, e2, a3, (a4.chg hc (fun k cs hb => hne k _ cs hb)).wider fun j hj _ => .inr hj⟩
        have hmbS : Hid (S1 mb ∧ S1 gl) := ⟨(hs mb).2 (.inr (.inr rfl)), (hs gl).2 (.inr (.inl rfl))⟩
        have hglt : Hid (gt ≠ gl) := h1.blk.ne_ hL.blk (by decide)
        have hnT : Hid (mb ≠ gt ∧ mb ≠ gl) := ⟨fun e => hmp.im.blk_ne h1.blk e.symm, fun e => hmp.im.blk_ne hL.blk e.symm⟩
        clear hL hs h1 h2 h3 hmp hLO2 hTX2
        refine wp_mixs (fun W => (Blk W gt 76 #[.pointer (some ⟨gl, 0, none⟩), .map (some mt), .bool t.ov] ∧ Blk W gl 74 #[.pointer (some ⟨g, 0, none⟩), .map (some mb), .int .i64 y.pn, .bool y.op])) [11] (by kernel_rfl) (by kernel_rfl) (by kernel_rfl) (by decide) (show Blk w2.drew _ _ _ ∧ Blk w2.drew _ _ _ from ⟨hbT.out, hbL.out⟩) ?_
        iterate 11 ((first | refine mixsq rfl rfl 0 (by decide +kernel) ?_ (fun w' hw' => Or.inl ?_) (fun K hK => ?_) | refine mixsq rfl rfl 1 (by decide +kernel) ?_ (fun w' hw' => Or.inl ?_) (fun K hK => ?_) | refine mixsq rfl rfl 2 (by decide +kernel) ?_ (fun w' hw' => Or.inl ?_) (fun K hK => ?_) | refine mixsq rfl rfl 3 (by decide +kernel) ?_ (fun w' hw' => Or.inl ?_) (fun K hK => ?_) | refine mixsq rfl rfl 4 (by decide +kernel) ?_ (fun w' hw' => Or.inl ?_) (fun K hK => ?_) | refine mixsq rfl rfl 5 (by decide +kernel) ?_ (fun w' hw' => Or.inl ?_) (fun K hK => ?_) | refine mixsq rfl rfl 6 (by decide +kernel) ?_ (fun w' hw' => Or.inl ?_) (fun K hK => ?_) | refine mixsq rfl rfl 7 (by decide +kernel) ?_ (fun w' hw' => Or.inl ?_) (fun K hK => ?_)); rotate_left; (focus (have hc : (Blk w' gt 76 #[.pointer (some ⟨gl, 0, none⟩), .map (some mt), .bool t.ov] ∧ Blk w' gl 74 #[.pointer (some ⟨g, 0, none⟩), .map (some mb), .int .i64 y.pn, .bool y.op]) := hw'; have c0 := hc.1.cell 0; have c1 := hc.1.cell 1; have c2 := hc.2.cell 0; have c3 := hc.2.cell 1; go_simp; rfl)); go_simp; refine hK _ ?_; clear hK K)
        refine mixsl rfl rfl (fun K hK => ?_)
        go_simp
        refine hCp.out.mono ?_
        rintro e w3 ⟨rfl, hi3, hc3⟩
        have hc3 : Chg (fun k => k = mb) w2 w3 := ((Chg.refl _ w2).drew).trans hc3
        have b3 : Blk w3 gt 76 #[.pointer (some ⟨gl, 0, none⟩), .map (some mt), .bool t.ov] ∧ Blk w3 gl 74 #[.pointer (some ⟨g, 0, none⟩), .map (some mb), .int .i64 y.pn, .bool y.op] := ⟨hbT.out.chg hc3 (fun e => hnT.out.1 e.symm), hbL.out.chg hc3 (fun e => hnT.out.2 e.symm)⟩
        refine hK (fun W => (Blk W gt 76 #[.pointer (some ⟨gl, 0, none⟩), .map (some mt), .bool t.ov] ∧ Blk W gl 74 #[.pointer (some ⟨g, 0, none⟩), .map (some mb), .int .i64 y.pn, .bool y.op])) _ _ (fun _ => ⟨b3, fun _ => b3⟩) ?_
        clear hK K
        refine mixs_nil ?_
        obtain ⟨hLO3, hTX3⟩ := hmrg.out w3 hi3 hc3
        have d0 : w3.cell? ⟨gt, 0, none⟩ = some (.pointer (some ⟨gl, 0, none⟩)) := b3.1.cell 0
        have d1 : w3.cell? ⟨gl, 0, none⟩ = some (.pointer (some ⟨g, 0, none⟩)) := b3.2.cell 0
        have d2 : w3.cell? ⟨gl, 2, none⟩ = some (.int .i64 y.pn) := b3.2.cell 2
        have d3 : w3.frozen? ⟨gl, 2, none⟩ = false := b3.2.frozen 2
        obtain ⟨hLO4, hc4⟩ := hLO3.pend (y.pn + 1)
        have hTX4 := hTX3.chgT hc4 (fun k hk e => hdj.out k (e ▸ hmbS.out.2) hk) (fun k cs hb e => hLO3.not8 k cs hb (e ▸ hmbS.out.2))
        have hc5 : Hid (Chg S1 w2 (w3.setCell ⟨gl, 2, none⟩ (.int .i64 (y.pn + 1)))) := (hc3.mono (fun k _ hk => hk ▸ hmbS.out.1)).then_ hc4 (fun i _ hi => hi ▸ hmbS.out.2)
        have hLO4 := Lib.hid hLO4
        have hTX4 := Lib.hid hTX4
        have hpw : IntKind.i64.wrap (y.pn + 1) = y.pn + 1 := by have := hyp.out; rw [IntKind.wrap_i64]; omega
        have hgl2 := hglt.out
        clear hLO3 hTX3 hi3 hc3 b3 hCp hmrg hbT hbL hc4
        go_wp2
        refine leaves_cons (f := 45) (args := #[.pointer (some ⟨gt, 0, none⟩)]) (by simp) (by simp [go_sem]) ?_
        refine (end_callsD .returning _ hLO4.out hTX4.out hdj.out).mono ?_
        rintro e u' w6 ⟨rfl, rfl, e1, e2, e3⟩
        refine ⟨_, results_tmp rfl _ _ _, ?_⟩
        refine hclose.out w6 _ rfl ?_ e2 (hc5.out.mono (fun _ _ h => .inl h) |>.then_ e3 (fun i _ h => h))
        rw [if_neg (by rw [hov.out]; decide)] at e1
        exact e1
      | false =>
        rw [hfit] at hFt
        have hyx : y = lsyncP x := by rw [← hy.out]; unfold syncOr; rw [if_neg (by rw [hfit]; decide)]
        have hyl2 := lsyncP_len hfh.out
        have hyp2 := lsyncP_pn x hph.out
        rw [← hyx] at hyl2 hyp2
        have hyl2 := Lib.hid hyl2
        have hyp2 := Lib.hid hyp2
        go_enter_defers Try.func19, Try.ntmps19
        go_wp2_with fail
        refine hO.out.mono ?_
        rintro e w1 ⟨rfl, rfl⟩
        clear hO
        go_wp2_with fail
        refine hFt.out.mono ?_
        rintro e w2 ⟨rfl, hB2⟩
        clear hFt
        have hLOa := hh.out.below hB2
        have hTXa := hth.out.below hB2
        have hSy := LSync_calls w2 hLOa hfh.out hMh.out (by omega) (by rw [Nat.add_sub_cancel]; exact hklh.out)
        rw [← hyx] at hSy
        have hSy := Lib.hid hSy
        obtain ⟨a0, _, _, b0, _, _, _⟩ := txFacts hLOa hTXa
        have hLOa := Lib.hid hLOa
        have hTXa := Lib.hid hTXa
        have hB2 := Lib.hid hB2
        clear hy hfit hyx
        obtain ⟨er, y⟩ := y
        dsimp only at hyl2 hyp2 hSy ho2
        go_wp2_with fail
        refine hSy.out.mono ?_
        rintro e w3 ⟨rfl, S1, F1, hL3, hc3, hs3, hf3⟩
        have hTX3 := hTXa.out.chgT hc3 (fun k hk hS => hdh.out k hS hk) hLOa.out.not8
        have hdj3 : ∀ k, S1 k → ¬ ST k := fun k hk hT => by
          rcases hs3 k hk with h | h
          · exact hdh.out k h hT
          · have := hTXa.out.lt hT
            omega
        have hc03 : Chg S w w3 := ((Chg.of_below hB2.out : Chg (fun _ => False) w w2).mono (fun _ _ h => h.elim)).then_ hc3 (fun _ _ h => h)
        have hS03 : ∀ k, S1 k → S k ∨ w.heap.size ≤ k := fun k hk => by
          rcases hs3 k hk with h | h
          · exact .inl h
          · exact .inr (Nat.le_trans hB2.out.size h)
        have hF03 : ∀ k, F1 k → F k ∨ w.heap.size ≤ k := fun k hk => by
          rcases hf3 k hk with h | h
          · exact .inl h
          · exact .inr (Nat.le_trans hB2.out.size h)
        clear hSy hc3 hs3 hf3 hLOa hTXa a0 b0
        by_cases he0 : er = 0
        · subst he0
          have ho3 : Hid (o = (0, ⟨y.d, mergeF y.wt t.m, y.pn + 1, false⟩, ⟨t.m, true⟩)) := by show _ = _; rw [← ho2.out]; rfl
          obtain ⟨w2, hw2⟩ : ∃ w2, Hid (w2 = w3) := ⟨_, Lib.hid rfl⟩
          have hLO2 : Hid (LO w2 gl g y S1 F1) := by rw [hw2.out]; exact hL3
          have hTX2 : Hid (TX w2 gt gl N t ST FT) := by rw [hw2.out]; exact hTX3
          have hdj := Lib.hid hdj3
          have hyl := hyl2
          have hyp := hyp2
          have hclose : Hid (∀ w' v, v = Value.int .i64 0 → LO w' gl g ⟨y.d, mergeF y.wt t.m, y.pn + 1, false⟩ S1 (fun k => F1 k ∨ FT k) → TX w' gt gl N ⟨t.m, true⟩ ST FT → Chg (fun k => S1 k ∨ ST k) w2 w' → CommitOut w S F ST FT gl g gt N o (.returned v) w') := fun w' v hv e1 e2 e3 => by
            rw [ho3.out, hv]
            rw [hw2.out] at e3
            refine ⟨rfl, S1, _, e1, e2, (hc03.mono (fun _ _ h => .inl h)).then_ e3 (fun i hi h => ?_), hS03, fun k hk => ?_⟩
            · rcases h with h | h
              · exact .inl ((hS03 i h).resolve_right (by omega))
              · exact .inr h
            · rcases hk with hk | hk
              · rcases hF03 k hk with h | h
                · exact .inl h
                · exact .inr (.inr h)
              · exact .inr (.inl hk)
          clear ho2 ho3 hdj3 hyl2 hyp2 hc03 hS03 hF03 hTX3 hL3
          go_wp2_with fail
          rw [← hw2.out]
          clear hw2
          obtain ⟨mb, mx, Sd, hL, hs⟩ := hLO2.out
          obtain ⟨mt, mf, h1, h2, h3⟩ := hTX2.out
          have hmp : MBv F1 w2 mb N mx y.wt := by have := hL.mp; rwa [hyl.out, Nat.add_sub_cancel] at this
          have hmne : mb ≠ mt := fun e => hdj.out mb ((hs mb).2 (.inr (.inr rfl))) ((h2 mb).2 (.inr e))
          have hCp := Lib.hid (Copy_calls w2.drew (hmp.im.keep (w' := w2.drew) rfl) (h1.mp.im.keep (w' := w2.drew) rfl) hmne (by omega : N ≤ 16384))
          have hbT := Lib.hid h1.blk
          have hbL := Lib.hid hL.blk
          have hmrg : Hid (∀ w3, IM Try.prog 3 w3 mb N (mergeF mx mf) → Chg (fun k => k = mb) w2 w3 → LO w3 gl g ⟨y.d, mergeF y.wt t.m, y.pn, y.op⟩ S1 (fun k => F1 k ∨ FT k) ∧ TX w3 gt gl N t ST FT) := fun w3 hi hc => by
            have hne : ∀ k tt cs, Blk w2 k tt cs → ¬ k = mb := fun k tt cs hb => hmp.im.blk_ne hb
            have hSmb : S1 mb := (hs mb).2 (.inr (.inr rfl))
            refine ⟨⟨mb, mergeF mx mf, Sd, ⟨hL.blk.chg hc (hne _ _ _ hL.blk), (hL.dk.chgT hc (fun j hj e => hL.nm (e ▸ hj)) (fun k cs hb => hne k _ cs hb) (fun k cs hb => hne k _ cs hb)).wide (fun k hk => .inl hk) (fun k hk => ?_), ?_, hL.ng, hL.nm⟩, hs⟩, hTX2.out.chgT hc (fun k hk e => hdj.out k (e ▸ hSmb) hk) (fun k cs hb => hne k _ cs hb)⟩
            · rcases hk with hk | hk
              · exact Nat.lt_of_lt_of_le (hL.dk.fl k hk) hc.size
              · exact Nat.lt_of_lt_of_le (h3 k hk) hc.size
            · show MBv _ w3 mb (y.d.l.length - 65) (mergeF mx mf) (mergeF y.wt t.m)
              rw [hyl.out, Nat.add_sub_cancel]
              refine ⟨hi, fun k => ?_⟩
              rcases h1.mp.at_ k with ⟨a1, a2⟩ | ⟨bs, v, a1, a2, a3, a4⟩
              · have e1 : mergeF y.wt t.m k = y.wt k := by unfold mergeF; rw [a1]
                have e2 : mergeF mx mf k = mx k := by unfold mergeF; rw [a2]
                rw [e1, e2]
                rcases hmp.at_ k with b1 | ⟨bs, v, b1, b2, b3, b4⟩
                · exact .inl b1
                · exact .inr ⟨bs, v, b1, b2, b3, (b4.chg hc (fun k cs hb => hne k _ cs hb)).wider fun j hj _ => .inl hj⟩
              · have e1 : mergeF y.wt t.m k = some bs := by unfold mergeF; rw [a1]
                have e2 : mergeF mx mf k = some v := by unfold mergeF; rw [a2]
                exact .inr ⟨bs, v, e1, e2, a3, (a4.chg hc (fun k cs hb => hne k _ cs hb)).wider fun j hj _ => .inr hj⟩
          have hmbS : Hid (S1 mb ∧ S1 gl) := ⟨(hs mb).2 (.inr (.inr rfl)), (hs gl).2 (.inr (.inl rfl))⟩
          have hglt : Hid (gt ≠ gl) := h1.blk.ne_ hL.blk (by decide)
          have hnT : Hid (mb ≠ gt ∧ mb ≠ gl) := ⟨fun e => hmp.im.blk_ne h1.blk e.symm, fun e => hmp.im.blk_ne hL.blk e.symm⟩
          clear hL hs h1 h2 h3 hmp hLO2 hTX2
          refine wp_mixs (fun W => (Blk W gt 76 #[.pointer (some ⟨gl, 0, none⟩), .map (some mt), .bool t.ov] ∧ Blk W gl 74 #[.pointer (some ⟨g, 0, none⟩), .map (some mb), .int .i64 y.pn, .bool y.op])) [11] (by kernel_rfl) (by kernel_rfl) (by kernel_rfl) (by decide) (show Blk w2.drew _ _ _ ∧ Blk w2.drew _ _ _ from ⟨hbT.out, hbL.out⟩) ?_
          iterate 11 ((first | refine mixsq rfl rfl 0 (by decide +kernel) ?_ (fun w' hw' => Or.inl ?_) (fun K hK => ?_) | refine mixsq rfl rfl 1 (by decide +kernel) ?_ (fun w' hw' => Or.inl ?_) (fun K hK => ?_) | refine mixsq rfl rfl 2 (by decide +kernel) ?_ (fun w' hw' => Or.inl ?_) (fun K hK => ?_) | refine mixsq rfl rfl 3 (by decide +kernel) ?_ (fun w' hw' => Or.inl ?_) (fun K hK => ?_) | refine mixsq rfl rfl 4 (by decide +kernel) ?_ (fun w' hw' => Or.inl ?_) (fun K hK => ?_) | refine mixsq rfl rfl 5 (by decide +kernel) ?_ (fun w' hw' => Or.inl ?_) (fun K hK => ?_) | refine mixsq rfl rfl 6 (by decide +kernel) ?_ (fun w' hw' => Or.inl ?_) (fun K hK => ?_) | refine mixsq rfl rfl 7 (by decide +kernel) ?_ (fun w' hw' => Or.inl ?_) (fun K hK => ?_)); rotate_left; (focus (have hc : (Blk w' gt 76 #[.pointer (some ⟨gl, 0, none⟩), .map (some mt), .bool t.ov] ∧ Blk w' gl 74 #[.pointer (some ⟨g, 0, none⟩), .map (some mb), .int .i64 y.pn, .bool y.op]) := hw'; have c0 := hc.1.cell 0; have c1 := hc.1.cell 1; have c2 := hc.2.cell 0; have c3 := hc.2.cell 1; go_simp; rfl)); go_simp; refine hK _ ?_; clear hK K)
          refine mixsl rfl rfl (fun K hK => ?_)
          go_simp
          refine hCp.out.mono ?_
          rintro e w3 ⟨rfl, hi3, hc3⟩
          have hc3 : Chg (fun k => k = mb) w2 w3 := ((Chg.refl _ w2).drew).trans hc3
          have b3 : Blk w3 gt 76 #[.pointer (some ⟨gl, 0, none⟩), .map (some mt), .bool t.ov] ∧ Blk w3 gl 74 #[.pointer (some ⟨g, 0, none⟩), .map (some mb), .int .i64 y.pn, .bool y.op] := ⟨hbT.out.chg hc3 (fun e => hnT.out.1 e.symm), hbL.out.chg hc3 (fun e => hnT.out.2 e.symm)⟩
          refine hK (fun W => (Blk W gt 76 #[.pointer (some ⟨gl, 0, none⟩), .map (some mt), .bool t.ov] ∧ Blk W gl 74 #[.pointer (some ⟨g, 0, none⟩), .map (some mb), .int .i64 y.pn, .bool y.op])) _ _ (fun _ => ⟨b3, fun _ => b3⟩) ?_
          clear hK K
          refine mixs_nil ?_
          obtain ⟨hLO3, hTX3⟩ := hmrg.out w3 hi3 hc3
          have d0 : w3.cell? ⟨gt, 0, none⟩ = some (.pointer (some ⟨gl, 0, none⟩)) := b3.1.cell 0
          have d1 : w3.cell? ⟨gl, 0, none⟩ = some (.pointer (some ⟨g, 0, none⟩)) := b3.2.cell 0
          have d2 : w3.cell? ⟨gl, 2, none⟩ = some (.int .i64 y.pn) := b3.2.cell 2
          have d3 : w3.frozen? ⟨gl, 2, none⟩ = false := b3.2.frozen 2
          obtain ⟨hLO4, hc4⟩ := hLO3.pend (y.pn + 1)
          have hTX4 := hTX3.chgT hc4 (fun k hk e => hdj.out k (e ▸ hmbS.out.2) hk) (fun k cs hb e => hLO3.not8 k cs hb (e ▸ hmbS.out.2))
          have hc5 : Hid (Chg S1 w2 (w3.setCell ⟨gl, 2, none⟩ (.int .i64 (y.pn + 1)))) := (hc3.mono (fun k _ hk => hk ▸ hmbS.out.1)).then_ hc4 (fun i _ hi => hi ▸ hmbS.out.2)
          have hLO4 := Lib.hid hLO4
          have hTX4 := Lib.hid hTX4
          have hpw : IntKind.i64.wrap (y.pn + 1) = y.pn + 1 := by have := hyp.out; rw [IntKind.wrap_i64]; omega
          have hgl2 := hglt.out
          clear hLO3 hTX3 hi3 hc3 b3 hCp hmrg hbT hbL hc4
          go_wp2
          refine leaves_cons (f := 45) (args := #[.pointer (some ⟨gt, 0, none⟩)]) (by simp) (by simp [go_sem]) ?_
          refine (end_callsD .returning _ hLO4.out hTX4.out hdj.out).mono ?_
          rintro e u' w6 ⟨rfl, rfl, e1, e2, e3⟩
          refine ⟨_, results_tmp rfl _ _ _, ?_⟩
          refine hclose.out w6 _ rfl ?_ e2 (hc5.out.mono (fun _ _ h => .inl h) |>.then_ e3 (fun i _ h => h))
          rw [if_neg (by rw [hov.out]; decide)] at e1
          exact e1
        · have hfin : Hid (∀ w' v, v = Value.int .i64 er → LO w' gl g ⟨y.d, y.wt, y.pn, false⟩ S1 F1 → TX w' gt gl N ⟨t.m, true⟩ ST FT → Chg (fun k => S1 k ∨ ST k) w3 w' → CommitOut w S F ST FT gl g gt N o (.returned v) w') := fun w' v hv e1 e2 e3 => by
            rw [← ho2.out, if_pos he0, hv]
            refine ⟨rfl, S1, F1, e1, e2, (hc03.mono (fun _ _ h => .inl h)).then_ e3 (fun i hi h => ?_), hS03, fun k hk => ?_⟩
            · rcases h with h | h
              · exact .inl ((hS03 i h).resolve_right (by omega))
              · exact .inr h
            · rcases hF03 k hk with h | h
              · exact .inl h
              · exact .inr (.inr h)
          have hL3 := Lib.hid hL3
          have hTX3 := Lib.hid hTX3
          have hdj3 := Lib.hid hdj3
          clear ho2 hc03 hS03 hF03
          go_wp2
          refine leaves_cons (f := 45) (args := #[.pointer (some ⟨gt, 0, none⟩)]) (by simp) (by simp [go_sem]) ?_
          refine (end_callsD .returning _ hL3.out hTX3.out hdj3.out).mono ?_
          rintro e u' w6 ⟨rfl, rfl, e1, e2, e3⟩
          rw [if_neg (by rw [hov.out]; decide)] at e1
          exact ⟨_, results_tmp rfl _ _ _, hfin.out w6 _ rfl e1 e2 e3⟩
def abortP (x : Lk) (t : Tk) : Lk × Tk := if t.ov = true then (x, t) else (⟨x.d, x.wt, x.pn, false⟩, ⟨fun _ => none, true⟩)
set_option maxRecDepth 10000 in
set_option maxHeartbeats 4000000 in
theorem Abort_calls (w : World) {gl g gt N : Nat} {x : Lk} {t : Tk} {S ST FT : Nat → Prop} (h : LO w gl g x S F) (ht : TX w gt gl N t ST FT) (hd : ∀ k, S k → ¬ ST k) :
    Calls Try.prog 25 #[.pointer (some ⟨gt, 0, none⟩)] w fun e w' => e = .returned (.tuple #[]) ∧ LO w' gl g (abortP x t).1 S F ∧ TX w' gt gl N (abortP x t).2 ST FT ∧ Chg (fun k => S k ∨ ST k) w w' := by
  obtain ⟨a0, a2, _, b0, b3, _, hne⟩ := txFacts h ht
  cases hov : t.ov with
  | true =>
    rw [hov] at a2
    have hE := Lib.hid (end_calls w h ht hd)
    have hfin : Hid (∀ w', EndOut w S F ST FT gl g gt N x t w' → LO w' gl g (abortP x t).1 S F ∧ TX w' gt gl N (abortP x t).2 ST FT ∧ Chg (fun k => S k ∨ ST k) w w') := fun w' hE => by
      obtain ⟨e1, e2, e3⟩ := hE
      rw [if_pos hov] at e1
      unfold abortP
      rw [if_pos hov]
      refine ⟨e1, ?_, e3⟩
      obtain ⟨m, ov⟩ := t
      simp only at hov
      subst hov
      exact e2
    clear h ht hd hov
    go_enter Try.func25, Try.ntmps25
    go_wp2_with fail
    refine hE.out.mono ?_
    rintro e w1 ⟨rfl, hEO⟩
    have hf := Lib.hid (hfin.out w1 hEO)
    clear hE hfin hEO
    go_wp2
    go_end0
    exact ⟨rfl, hf.out⟩
  | false =>
    rw [hov] at a2
    have hdh := Lib.hid hd
    have hh := Lib.hid h
    obtain ⟨mt, mf, h1, h2, h3⟩ := ht
    have a1 : w.cell? ⟨gt, 1, none⟩ = some (.map (some mt)) := h1.blk.cell 1
    obtain ⟨w1, hrun, hi1, ht1⟩ := h1.mp.im.run_clear Try.underlying72 0
    have hc1 : Chg (fun k => k = mt) w w1 := Chg.turned ht1 rfl
    have hne8 : ∀ k tt cs, Blk w k tt cs → ¬ k = mt := fun k tt cs hb => h1.mp.im.blk_ne hb
    have hL1 : LO w1 gl g x S F := h.chgT hc1 (fun k hk e => hd k hk ((h2 k).2 (.inr e))) (fun k cs hb => hne8 k _ cs hb) (fun k cs hb => hne8 k _ cs hb)
    have hT1 : TX w1 gt gl N ⟨fun _ => none, false⟩ ST FT := ⟨mt, fun _ => none, ⟨by have := h1.blk.chg hc1 (hne8 _ _ _ h1.blk); rw [hov] at this; exact this, hi1, fun _ => .inl ⟨rfl, rfl⟩⟩, h2, fun k hk => Nat.lt_of_lt_of_le (h3 k hk) hc1.size⟩
    have hE := Lib.hid (end_calls w1 hL1 hT1 hd)
    have hfin : Hid (∀ w', EndOut w1 S F ST FT gl g gt N x ⟨fun _ => none, false⟩ w' → LO w' gl g (abortP x t).1 S F ∧ TX w' gt gl N (abortP x t).2 ST FT ∧ Chg (fun k => S k ∨ ST k) w w') := fun w' hE => by
      obtain ⟨e1, e2, e3⟩ := hE
      unfold abortP
      rw [if_neg (by rw [hov]; decide)]
      refine ⟨e1, e2, ?_⟩
      exact (hc1.mono (fun k _ hk => .inr ((h2 k).2 (.inr hk)))).then_ e3 (fun _ _ h => h)
    clear h hd hov h1 h2 h3 hi1 ht1 hc1 hne8 hL1 hT1 hh hdh
    go_enter Try.func25, Try.ntmps25
    go_wp2_with fail
    refine hE.out.mono ?_
    rintro e w2 ⟨rfl, hEO⟩
    have hf := Lib.hid (hfin.out w2 hEO)
    clear hE hfin hEO
    go_wp2
    go_end0
    exact ⟨rfl, hf.out⟩
end Go.Proofs.Ytefbmbfhhhjgkaa
