/- The cache: hold. -/
import Derived.Test.YtfapehgjiglflaaKv
namespace Go.Proofs.Ytfapehgjiglflaa
open Go.RowKit
def missC (c : Ck) (l : List Hd) : Ck := ⟨c.size, l, c.hits, winc c.misses, c.evs⟩
def evC (c : Ck) (l : List Hd) : Ck := ⟨c.size, l, c.hits, c.misses, winc c.evs⟩
theorem Nod.not8 {w : World} {k : Nat} {h : Hd} (hn : Nod w k h) {j : Nat} {t : Nat} {cs : Array Value} (hb : Blk w j t cs) (ht : t ≠ 78) : j ≠ k := fun e => by
  obtain ⟨cs', hB⟩ := hn.blk
  subst e
  exact absurd rfl (hb.ne_ hB ht)
theorem Nod.notS {w : World} {k g : Nat} {h : Hd} {d : Dk} {S : Nat → Prop} (hn : Nod w k h) (hd : DK w g d S) : ¬ S k := fun hS => by
  obtain ⟨cs', hB⟩ := hn.blk
  rcases hd.kind hS hB with e | e <;> exact absurd e (by decide)
theorem Nod.nmb {w : World} {k b N : Nat} {h : Hd} {f : Nat → Option Value} (hn : Nod w k h) (hm : IM Try.prog 3 w b N f) : k ≠ b := by
  obtain ⟨cs', hB⟩ := hn.blk
  exact hm.blk_ne hB
theorem KM.turned {w w' : World} {gc g mb N : Nat} {c : Ck} {ns : List (Nat × Hd)} {f : Nat → Option Value} (h : KM w gc g mb c ns) (hm : IM Try.prog 3 w mb N f) (ht : w.mapTurned w' mb) : KM w' gc g mb c ns := by
  refine h.chg (S := fun j => j = mb) (Chg.turned ht rfl) (fun e => ?_) (fun x hx e => ?_) (fun k cs hk e => ?_)
  · obtain ⟨p, q, hB⟩ := h.cb
    exact absurd e (hm.blk_ne hB)
  · exact absurd e ((h.nod x hx).nmb hm)
  · exact absurd e (hm.blk_ne hk)
theorem Nod.turned {w w' : World} {k mb N : Nat} {h : Hd} {f : Nat → Option Value} (hn : Nod w k h) (hm : IM Try.prog 3 w mb N f) (ht : w.mapTurned w' mb) : Nod w' k h :=
  hn.chg (S := fun j => j = mb) (Chg.turned ht rfl) (hn.nmb hm) (fun j cs hj e => absurd e (hm.blk_ne hj))
theorem Nod.drew {w : World} {k : Nat} {h : Hd} (hn : Nod w k h) : Nod w.drew k h := hn.chg (S := fun _ => False) ⟨rfl, rfl, rfl, Nat.le_refl _, fun _ _ _ => rfl⟩ (fun h => h) (fun _ _ _ h => h)
theorem Nod.cset {w : World} {k gc i g mb : Nat} {h : Hd} {c : Ck} (hn : Nod w k h) (hc : CBlk w gc g mb c) (u : Value) : Nod (w.setCell ⟨gc, i, none⟩ u) k h :=
  hn.chg (S := fun j => j = gc) (chg_set ⟨gc, i, none⟩ u) (hn.ne hc) (fun j cs hj e => by
    obtain ⟨p, q, hB⟩ := hc
    subst e
    exact absurd rfl (hj.ne_ hB (by decide)))
def Reads (gc mb k n : Nat) (W : World) : Prop := W.cell? ⟨gc, 2, none⟩ = some (.map (some mb)) ∧ W.cell? ⟨k, 0, none⟩ = some (.int .i64 (n : Int))
theorem Reads.of {w : World} {gc g mb k : Nat} {c : Ck} {h : Hd} (hc : CBlk w gc g mb c) (hn : Nod w k h) : Reads gc mb k h.n w := by
  obtain ⟨p, q, hB⟩ := hc
  obtain ⟨vb, l1, l2, hN, _⟩ := hn
  exact ⟨hB.cell 2, hN.cell 0⟩
/-- The end of hold: one more block. -/
theorem hold_tail {wA : World} {gc g mb N k : Nat} {c : Ck} {d : Dk} {ns : List (Nat × Hd)} {S : Nat → Prop} {hd : Hd} (h : KC wA gc g mb N c d ns S) (hn : Nod wA k hd) (hk : k ∉ ns.map (·.1)) (hnum : hd.n ∉ ns.map (·.2.n)) (hlo : hd.n < N) (hN : N ≤ 16384) :
    ∃ wC, (Instr.mapUpdate 75 (.map (some mb)) (.int .i64 (hd.n : Int)) (.pointer (some ⟨k, 0, none⟩))).run Try.prog (wA.setCell ⟨gc, 10, none⟩ (.int .i64 (winc c.misses))).drew = .ok () wC ∧
      Reads gc mb k hd.n (wA.setCell ⟨gc, 10, none⟩ (.int .i64 (winc c.misses))).drew ∧ Reads gc mb k hd.n wC ∧ KM wC gc g mb (missC c c.l) ns ∧ Nod wC k hd ∧
      ∀ w', KM w' gc g mb (missC c c.l) ((k, hd) :: ns) → Chg (fun j => j = gc ∨ j = k ∨ j ∈ ns.map (·.1)) wC w' →
        KC w' gc g mb N (missC c (hd :: c.l)) d ((k, hd) :: ns) S ∧ Chg (fun j => footK gc mb ns j ∨ j = k) wA w' := by
  obtain ⟨wB, hwB⟩ : ∃ wB, wA.setCell ⟨gc, 10, none⟩ (.int .i64 (winc c.misses)) = wB := ⟨_, rfl⟩
  rw [hwB]
  have kB : KM wB gc g mb (missC c c.l) ns := by rw [← hwB]; exact h.km.cset _ (by omega) (h.km.cb.miss _)
  have nB : Nod wB k hd := by rw [← hwB]; exact hn.cset h.km.cb _
  have cAB : Chg (fun j => j = gc) wA wB := by rw [← hwB]; exact (Chg.refl (fun j => j = gc) wA).at_ rfl _
  have mB : IM Try.prog 3 wB mb N (mfN ns) := h.mp.chg cAB (fun e => by
    obtain ⟨p, q, hB⟩ := h.km.cb
    exact h.mp.blk_ne hB e.symm)
  have mD : IM Try.prog 3 wB.drew mb N (mfN ns) := mB.keep rfl
  obtain ⟨wC, hrun, mC, ht⟩ := mD.run_update (mt := 75) (et := 76) Try.underlying3 Try.underlying75 (by omega) hlo (.pointer (some ⟨k, 0, none⟩))
  rw [mfN_ins] at mC
  have kD := kB.below (drew_below wB)
  have nD := nB.drew
  have kC := kD.turned mD ht
  have nC := nD.turned mD ht
  refine ⟨wC, hrun, Reads.of kD.cb nD, Reads.of kC.cb nC, kC, nC, fun w' hk' hc' => ?_⟩
  have cAC : Chg (fun j => j = gc ∨ j = mb) wA wC := ((cAB.mono (fun _ _ e => .inl e)).drew).trans (Chg.turned ht (.inr rfl))
  have call : Chg (fun j => footK gc mb ns j ∨ j = k) wA w' := (cAC.mono (fun j _ e => .inl (e.imp id .inl))).trans (hc'.mono (fun j _ e => by
    rcases e with e | e | e
    · exact .inl (.inl e)
    · exact .inr e
    · exact .inl (.inr (.inr e))))
  refine ⟨⟨?_, hk'.list _, ?_, h.mn, by rw [List.map_cons, h.cl]; rfl, ?_, ?_⟩, call⟩
  · refine DKF.chg h.dk call (fun j hS hF => ?_) (fun j cs hb hF => ?_) (fun j cs hb hF => ?_)
    · rcases hF with hF | rfl
      · exact h.notS hF hS
      · exact hn.notS h.dk hS
    · rcases hF with hF | rfl
      · exact h.notk hb (fun hk => (kindK_ne hk).2.2.1 rfl) hF
      · exact hn.not8 hb (by decide) rfl
    · rcases hF with hF | rfl
      · exact h.notk hb (fun hk => (kindK_ne hk).2.2.2.1 rfl) hF
      · exact hn.not8 hb (by decide) rfl
  · refine mC.chg hc' (fun e => ?_)
    rcases e with e | e | e
    · obtain ⟨p, q, hB⟩ := kC.cb
      exact mC.blk_ne hB e.symm
    · exact nC.nmb mC e.symm
    · obtain ⟨x, hx, ex⟩ := List.mem_map.1 e
      exact (kC.nod x hx).nmb mC ex
  · rw [List.map_cons, List.nodup_cons]
    exact ⟨hnum, h.num⟩
  · intro x hx
    rcases List.mem_cons.1 hx with rfl | hx
    · exact hlo
    · exact h.lo x hx
/-- One block goes. -/
theorem hold_ev {wE w1 : World} {gc g mb N k : Nat} {c : Ck} {d : Dk} {u v : List (Nat × Hd)} {x : Nat × Hd} {S : Nat → Prop} {hd : Hd} (h : KC wE gc g mb N c d (u ++ x :: v) S) (hn : Nod wE k hd) (hk : k ∉ (u ++ x :: v).map (·.1)) (hN : N ≤ 16384)
    (k1 : KM w1 gc g mb c (u ++ v)) (n1 : Nod w1 x.1 x.2) (c1 : Chg (fun k => k = gc ∨ k ∈ (u ++ x :: v).map (·.1)) wE w1) :
    ∃ w2, (Builtin.delete_ #[75, 3] 0 #[.map (some mb), .int .i64 (x.2.n : Int)]).run Try.prog w1.drew = .ok (.tuple #[]) w2 ∧ Reads gc mb x.1 x.2.n w1.drew ∧ Reads gc mb x.1 x.2.n w2 ∧ CBlk w2 gc g mb c ∧
      KC (w2.setCell ⟨gc, 11, none⟩ (.int .i64 (winc c.evs))) gc g mb N (evC c ((u ++ v).map (·.2))) d (u ++ v) S ∧ Nod (w2.setCell ⟨gc, 11, none⟩ (.int .i64 (winc c.evs))) k hd ∧ Chg (footK gc mb (u ++ x :: v)) wE (w2.setCell ⟨gc, 11, none⟩ (.int .i64 (winc c.evs))) := by
  have hmb : ¬ (mb = gc ∨ mb ∈ (u ++ x :: v).map (·.1)) := fun e => by
    obtain ⟨t, cs, hb, _⟩ := h.km.kind e
    exact absurd rfl (h.mp.blk_ne hb)
  have m1 : IM Try.prog 3 w1 mb N (mfN (u ++ x :: v)) := h.mp.chg c1 hmb
  have mD : IM Try.prog 3 w1.drew mb N (mfN (u ++ x :: v)) := m1.keep rfl
  have hxn : x.2.n < N := h.lo x (by simp)
  obtain ⟨w2, hrun, m2, ht⟩ := mD.run_delete (mt := 75) (et := 76) Try.underlying3 Try.underlying75 (k := x.2.n) (by omega) 0
  rw [mfN_del h.num] at m2
  have kD := k1.below (drew_below w1)
  have k2 := kD.turned mD ht
  have n2 := n1.drew.turned mD ht
  have hl1 : Nod w1 k hd := hn.chg c1 (fun e => by
    rcases e with e | e
    · exact hn.ne h.km.cb e
    · exact hk e) (fun j cs hj e => by
    obtain ⟨t, cs', hb, ht'⟩ := h.km.kind e
    exact absurd rfl (hj.ne_ hb (fun e => (kindK_ne ht').2.2.1 e.symm)))
  have hl2 := hl1.drew.turned mD ht
  have k3 := (k2.cset (.int .i64 (winc c.evs)) (by omega) (k2.cb.evct (winc c.evs)))
  have call : Chg (footK gc mb (u ++ x :: v)) wE (w2.setCell ⟨gc, 11, none⟩ (.int .i64 (winc c.evs))) := by
    have q1 : Chg (footK gc mb (u ++ x :: v)) wE w1.drew := (c1.mono (fun j _ e => e.imp id .inr)).drew
    have q2 : Chg (footK gc mb (u ++ x :: v)) wE w2 := q1.trans (Chg.turned ht (.inr (.inl rfl)))
    exact q2.at_ (.inl rfl) _
  refine ⟨w2, hrun, Reads.of kD.cb n1.drew, Reads.of k2.cb n2, k2.cb, ⟨?_, k3.list _, ?_, h.mn, rfl, ?_, ?_⟩, hl2.cset k2.cb _, call⟩
  · refine DKF.chg h.dk call (fun j hS hF => h.notS hF hS) (fun j cs hb hF => ?_) (fun j cs hb hF => ?_)
    · exact h.notk hb (fun hk => (kindK_ne hk).2.2.1 rfl) hF
    · exact h.notk hb (fun hk => (kindK_ne hk).2.2.2.1 rfl) hF
  · refine m2.chg (chg_set ⟨gc, 11, none⟩ _) (fun e => ?_)
    obtain ⟨p, q, hB⟩ := k2.cb
    exact m2.blk_ne hB (show gc = mb from e.symm)
  · have := h.num
    rw [List.map_append, List.map_cons] at this
    have h7 := List.nodup_append.1 this
    rw [List.map_append, List.nodup_append]
    exact ⟨h7.1, (List.nodup_cons.1 h7.2.1).2, fun a ha b hb => h7.2.2 a ha b (List.mem_cons_of_mem _ hb)⟩
  · intro z hz
    refine h.lo z ?_
    rcases List.mem_append.1 hz with hz | hz
    · exact List.mem_append.2 (.inl hz)
    · exact List.mem_append.2 (.inr (List.mem_cons_of_mem _ hz))
set_option maxRecDepth 10000 in
set_option maxHeartbeats 4000000 in
theorem holdNil_calls (w : World) {gc g mb N k : Nat} {c : Ck} {d : Dk} {ns : List (Nat × Hd)} {S : Nat → Prop} {hd : Hd} (h : KC w gc g mb N c d ns S) (hn : Nod w k hd) (hk : k ∉ ns.map (·.1)) (hnum : hd.n ∉ ns.map (·.2.n)) (hlo : hd.n < N) (hN : N ≤ 16384) :
    Calls Try.prog 39 #[.pointer (some ⟨gc, 0, none⟩), .pointer (some ⟨k, 0, none⟩), .pointer none] w fun e w' => e = .returned (.int .i64 0) ∧
      KC w' gc g mb N (missC c (hd :: c.l)) d ((k, hd) :: ns) S ∧ Chg (fun j => footK gc mb ns j ∨ j = k) w w' := by
  have hA := Lib.hid h
  have nA := Lib.hid hn
  have hkA := Lib.hid hk
  have hnumA := Lib.hid hnum
  clear h hn hk hnum
  go_enter Try.func39, Try.ntmps39
  obtain ⟨wC, hrun, hr1, hr2, kC, nC, hend⟩ := hold_tail hA.out nA.out hkA.out hnumA.out hlo hN
  have c10 : w.cell? ⟨gc, 10, none⟩ = some (.int .i64 c.misses) := by
    obtain ⟨p, q, hB⟩ := hA.out.km.cb
    exact hB.cell 10
  have f10 : w.frozen? ⟨gc, 10, none⟩ = false := by
    obtain ⟨p, q, hB⟩ := hA.out.km.cb
    exact hB.frozen 10
  have hr1 := Lib.hid hr1
  have hr2 := Lib.hid hr2
  have kC := Lib.hid kC
  have nC := Lib.hid nC
  have hend := Lib.hid hend
  have hrun0 := Lib.hid hrun
  clear hA nA hrun
  obtain ⟨wB, hwB⟩ : ∃ wB, w.setCell ⟨gc, 10, none⟩ (.int .i64 (winc c.misses)) = wB := ⟨_, rfl⟩
  have hwB1 := hwB
  unfold winc at hwB1
  have hrun := hrun0.out
  have hr1 := Lib.hid hr1.out
  try simp only [missC, evC] at hrun hr1
  rw [hwB] at hrun hr1
  go_wp2_with fail
  try rw [hwB1]
  refine wp_mixs (Reads gc mb k hd.n) [9] (by kernel_rfl) (by kernel_rfl) (by kernel_rfl) (by decide) hr1.out ?_
  iterate 9 ((first | refine mixsq rfl rfl 0 (by decide +kernel) ?_ (fun w' hw' => Or.inl ?_) (fun K hK => ?_) | refine mixsq rfl rfl 1 (by decide +kernel) ?_ (fun w' hw' => Or.inl ?_) (fun K hK => ?_) | refine mixsq rfl rfl 2 (by decide +kernel) ?_ (fun w' hw' => Or.inl ?_) (fun K hK => ?_) | refine mixsq rfl rfl 3 (by decide +kernel) ?_ (fun w' hw' => Or.inl ?_) (fun K hK => ?_)); rotate_left; (focus (obtain ⟨z1, z2⟩ := hw'; go_simp; rfl)); go_simp; refine hK _ ?_; clear hK K)
  refine mixsl rfl rfl (fun K hK => ?_)
  go_simp
  refine hK (fun _ => True) _ _ (fun _ => ⟨trivial, fun _ => hr2.out⟩) ?_
  clear hK K
  refine mixs_nil ?_
  clear hrun hrun0 hwB hwB1 c10 f10
  go_wp2_with fail
  refine (First_calls wC kC.out nC.out hkA.out).mono ?_
  rintro e wD ⟨rfl, kD, cD⟩
  obtain ⟨hKC, hCh⟩ := hend.out wD kD cD
  have hfin := Lib.hid (And.intro hKC hCh)
  clear kD cD hKC hCh hend
  go_wp2
  go_ret
  exact ⟨rfl, hfin.out⟩
set_option maxRecDepth 10000 in
set_option maxHeartbeats 8000000 in
theorem holdClean_calls (w : World) {gc g mb N k : Nat} {c : Ck} {d : Dk} {u v : List (Nat × Hd)} {x : Nat × Hd} {S : Nat → Prop} {hd : Hd} (h : KC w gc g mb N c d (u ++ x :: v) S) (hn : Nod w k hd) (hk : k ∉ (u ++ x :: v).map (·.1)) (hnum : hd.n ∉ (u ++ x :: v).map (·.2.n)) (hlo : hd.n < N) (hN : N ≤ 16384) (hdy : x.2.dirty = false) :
    Calls Try.prog 39 #[.pointer (some ⟨gc, 0, none⟩), .pointer (some ⟨k, 0, none⟩), .pointer (some ⟨x.1, 0, none⟩)] w fun e w' => e = .returned (.int .i64 0) ∧
      KC w' gc g mb N (missC (evC c ((u ++ v).map (·.2))) (hd :: (u ++ v).map (·.2))) d ((k, hd) :: (u ++ v)) S ∧ Chg (fun j => footK gc mb (u ++ x :: v) j ∨ j = k) w w' := by
  have d2 : w.cell? ⟨x.1, 2, none⟩ = some (.bool false) := by
    obtain ⟨vb, l1, l2, hB, _⟩ := h.km.nod x (by simp)
    have := hB.cell 2
    rw [this, hdy]
    rfl
  have hE := Lib.hid h
  have nE := Lib.hid hn
  have hkE := Lib.hid hk
  have hnumE := Lib.hid hnum
  clear h hn hk hnum hdy
  go_enter Try.func39, Try.ntmps39
  go_wp2_with fail
  refine (Out_calls w hE.out.km).mono ?_
  rintro e w1 ⟨rfl, k1, n1, hx1, c1⟩
  obtain ⟨w2, hrun2, hq1, hq2, hcb2, hK3, hN3, hC3⟩ := hold_ev hE.out nE.out hkE.out hN k1 n1 c1
  have hq1 := Lib.hid hq1
  have hq2 := Lib.hid hq2
  have c11 : w2.cell? ⟨gc, 11, none⟩ = some (.int .i64 c.evs) := by
    obtain ⟨p, q, hB⟩ := hcb2
    exact hB.cell 11
  have f11 : w2.frozen? ⟨gc, 11, none⟩ = false := by
    obtain ⟨p, q, hB⟩ := hcb2
    exact hB.frozen 11
  have hA := Lib.hid hK3
  have nA := Lib.hid hN3
  have hC3 := Lib.hid hC3
  clear k1 n1 c1 hcb2 hK3 hN3 hE nE
  go_wp2_with fail
  refine wp_mixs (Reads gc mb x.1 x.2.n) [8] (by kernel_rfl) (by kernel_rfl) (by kernel_rfl) (by decide) hq1.out ?_
  iterate 8 ((first | refine mixsq rfl rfl 0 (by decide +kernel) ?_ (fun w' hw' => Or.inl ?_) (fun K hK => ?_) | refine mixsq rfl rfl 1 (by decide +kernel) ?_ (fun w' hw' => Or.inl ?_) (fun K hK => ?_) | refine mixsq rfl rfl 2 (by decide +kernel) ?_ (fun w' hw' => Or.inl ?_) (fun K hK => ?_) | refine mixsq rfl rfl 3 (by decide +kernel) ?_ (fun w' hw' => Or.inl ?_) (fun K hK => ?_)); rotate_left; (focus (obtain ⟨z1, z2⟩ := hw'; go_simp; rfl)); go_simp; refine hK _ ?_; clear hK K)
  refine mixsl rfl rfl (fun K hK => ?_)
  go_simp
  refine hK (fun _ => True) _ _ (fun _ => ⟨trivial, fun _ => hq2.out⟩) ?_
  clear hK K
  refine mixs_nil ?_
  obtain ⟨wA, hwA⟩ : ∃ wA, w2.setCell ⟨gc, 11, none⟩ (.int .i64 (winc c.evs)) = wA := ⟨_, rfl⟩
  rw [hwA] at hA nA hC3
  have hwA1 := hwA
  unfold winc at hwA1
  have hkA : Hid (k ∉ (u ++ v).map (·.1)) := fun hm => hkE.out (by
    rw [List.map_append, List.mem_append] at hm
    exact mem_all.2 (hm.imp id .inr))
  have hnumA : Hid (hd.n ∉ (u ++ v).map (·.2.n)) := fun hm => hnumE.out (by
    rw [List.map_append, List.map_cons, List.mem_append, List.mem_cons]
    rw [List.map_append, List.mem_append] at hm
    exact hm.imp id .inr)
  clear hrun2 hq1 hq2
  obtain ⟨wC, hrun, hr1, hr2, kC, nC, hend⟩ := hold_tail hA.out nA.out hkA.out hnumA.out hlo hN
  have c10 : wA.cell? ⟨gc, 10, none⟩ = some (.int .i64 c.misses) := by
    obtain ⟨p, q, hB⟩ := hA.out.km.cb
    exact hB.cell 10
  have f10 : wA.frozen? ⟨gc, 10, none⟩ = false := by
    obtain ⟨p, q, hB⟩ := hA.out.km.cb
    exact hB.frozen 10
  have hr1 := Lib.hid hr1
  have hr2 := Lib.hid hr2
  have kC := Lib.hid kC
  have nC := Lib.hid nC
  have hend := Lib.hid hend
  have hrun0 := Lib.hid hrun
  clear hA nA hrun
  obtain ⟨wB, hwB⟩ : ∃ wB, wA.setCell ⟨gc, 10, none⟩ (.int .i64 (winc c.misses)) = wB := ⟨_, rfl⟩
  have hwB1 := hwB
  unfold winc at hwB1
  have hrun := hrun0.out
  have hr1 := Lib.hid hr1.out
  try simp only [missC, evC] at hrun hr1
  rw [hwB] at hrun hr1
  go_wp2_with fail
  try rw [hwB1]
  refine wp_mixs (Reads gc mb k hd.n) [9] (by kernel_rfl) (by kernel_rfl) (by kernel_rfl) (by decide) hr1.out ?_
  iterate 9 ((first | refine mixsq rfl rfl 0 (by decide +kernel) ?_ (fun w' hw' => Or.inl ?_) (fun K hK => ?_) | refine mixsq rfl rfl 1 (by decide +kernel) ?_ (fun w' hw' => Or.inl ?_) (fun K hK => ?_) | refine mixsq rfl rfl 2 (by decide +kernel) ?_ (fun w' hw' => Or.inl ?_) (fun K hK => ?_) | refine mixsq rfl rfl 3 (by decide +kernel) ?_ (fun w' hw' => Or.inl ?_) (fun K hK => ?_)); rotate_left; (focus (obtain ⟨z1, z2⟩ := hw'; go_simp; rfl)); go_simp; refine hK _ ?_; clear hK K)
  refine mixsl rfl rfl (fun K hK => ?_)
  go_simp
  refine hK (fun _ => True) _ _ (fun _ => ⟨trivial, fun _ => hr2.out⟩) ?_
  clear hK K
  refine mixs_nil ?_
  clear hrun hrun0 hwB hwB1 c10 f10
  go_wp2_with fail
  refine (First_calls wC kC.out nC.out hkA.out).mono ?_
  rintro e wD ⟨rfl, kD, cD⟩
  obtain ⟨hKC, hCh⟩ := hend.out wD kD cD
  have hCall : Chg (fun j => footK gc mb (u ++ x :: v) j ∨ j = k) w wD := (hC3.out.mono (fun j _ e => .inl e)).trans (hCh.mono (fun j _ e => by
    rcases e with (e | e | e) | e
    · exact .inl (.inl e)
    · exact .inl (.inr (.inl e))
    · rw [List.map_append, List.mem_append] at e
      exact .inl (.inr (.inr (mem_all.2 (e.imp id .inr))))
    · exact .inr e))
  have hfin := Lib.hid (And.intro hKC hCall)
  clear kD cD hKC hCh hend hCall
  go_wp2
  go_ret
  exact ⟨rfl, hfin.out⟩
def WReads (gc g k n : Nat) (vb : Value) (W : World) : Prop := W.cell? ⟨gc, 0, none⟩ = some (.pointer (some ⟨g, 0, none⟩)) ∧ W.cell? ⟨k, 0, none⟩ = some (.int .i64 (n : Int)) ∧ W.cell? ⟨k, 1, none⟩ = some vb
theorem WReads.of {w : World} {gc g mb N : Nat} {c : Ck} {d : Dk} {u v : List (Nat × Hd)} {x : Nat × Hd} {S : Nat → Prop} (h : KC w gc g mb N c d (u ++ x :: v) S) : ∃ A cc, RdT (fun _ => True) 5 w (.slice A x.2.b.length cc) (bvs x.2.b) ∧ ∀ w' S2, Chg S2 w w' → ¬ S2 gc → ¬ S2 x.1 → WReads gc g x.1 x.2.n (.slice A x.2.b.length cc) w' := by
  obtain ⟨p, q, hB⟩ := h.km.cb
  obtain ⟨vb, l1, l2, hN, hr⟩ := h.km.nod x (by simp)
  obtain ⟨A, cc, rfl⟩ := hr.shape
  rw [bvs_length] at hr hN
  exact ⟨A, cc, hr, fun w' S2 hc h1 h2 => ⟨(hB.chg hc h1).cell 0, (hN.chg hc h2).cell 0, (hN.chg hc h2).cell 1⟩⟩
def HoldOut (w : World) (gc g mb N k : Nat) (c : Ck) (d : Dk) (u v : List (Nat × Hd)) (x : Nat × Hd) (S : Nat → Prop) (hd : Hd) (w' : World) : Prop :=
      ∃ S', (∀ j, S' j → S j ∨ w.heap.size ≤ j) ∧ Chg (fun j => S j ∨ footK gc mb (u ++ x :: v) j ∨ j = k) w w' ∧
      (((writeP d x.2.n x.2.b).1 = 0 ∧ KC w' gc g mb N (missC (evC c ((u ++ v).map (·.2))) (hd :: (u ++ v).map (·.2))) (writeP d x.2.n x.2.b).2 ((k, hd) :: (u ++ v)) S') ∨
       ((writeP d x.2.n x.2.b).1 ≠ 0 ∧ KC w' gc g mb N c (writeP d x.2.n x.2.b).2 (u ++ x :: v) S'))
set_option maxRecDepth 10000 in
set_option maxHeartbeats 8000000 in
theorem holdDirty_calls (w : World) {gc g mb N k : Nat} {c : Ck} {d : Dk} {u v : List (Nat × Hd)} {x : Nat × Hd} {S : Nat → Prop} {hd : Hd} (h : KC w gc g mb N c d (u ++ x :: v) S) (hn : Nod w k hd) (hk : k ∉ (u ++ x :: v).map (·.1)) (hnum : hd.n ∉ (u ++ x :: v).map (·.2.n)) (hlo : hd.n < N) (hN : N ≤ 16384) (hdy : x.2.dirty = true)
    (hxl : x.2.b.length = 512) (hl : d.l.length ≤ 16384) (hv : waitP d ≤ 1000000) (ha : d.arm ≤ 9223372036854775807) (hpl : d.picks.length ≤ 1000000000) :
    Calls Try.prog 39 #[.pointer (some ⟨gc, 0, none⟩), .pointer (some ⟨k, 0, none⟩), .pointer (some ⟨x.1, 0, none⟩)] w fun e w' => e = .returned (.int .i64 (writeP d x.2.n x.2.b).1) ∧
      HoldOut w gc g mb N k c d u v x S hd w' := by
  have d2 : w.cell? ⟨x.1, 2, none⟩ = some (.bool true) := by
    obtain ⟨vb, l1, l2, hB, _⟩ := h.km.nod x (by simp)
    have := hB.cell 2
    rw [this, hdy]
    rfl
  obtain ⟨bA, bc, hrd, hwr⟩ := WReads.of h
  rw [hxl] at hrd hwr
  have hr0 := Lib.hid (hwr w.drew (fun _ => False) ⟨rfl, rfl, rfl, Nat.le_refl _, fun _ _ _ => rfl⟩ (fun h => h) (fun h => h))
  have hWr := Lib.hid (Write_calls w.drew g d S (DKF.drewN h.dk 1) (x.2.n : Int) (.slice bA 512 bc) x.2.b hrd.1 (fun j hj hS => by
    obtain ⟨k', cs', e1, hB, _⟩ := hrd.2 (fun e => by have := bvs_length x.2.b; rw [e, hxl] at this; cases this)
    rw [e1] at hj
    cases hj
    rcases h.dk.kind hS hB with e | e <;> exact absurd e (by decide)) (by omega) hl (by omega) ha hpl)
  have hE0 := Lib.hid h
  have nE0 := Lib.hid hn
  have hkE := Lib.hid hk
  have hnumE := Lib.hid hnum
  have hwr := Lib.hid hwr
  have hgS : Hid (¬ S gc ∧ ¬ S x.1) := ⟨fun hS => h.notS (.inl rfl) hS, fun hS => h.notS (.inr (.inr (mem_all.2 (.inr (.inl rfl))))) hS⟩
  have hkS : Hid (¬ S k) := hn.notS h.dk
  clear h hn hk hnum hdy hrd
  go_enter Try.func39, Try.ntmps39
  go_wp2_with fail
  refine wp_mixs (WReads gc g x.1 x.2.n (.slice bA 512 bc)) [12] (by kernel_rfl) (by kernel_rfl) (by kernel_rfl) (by decide) hr0.out ?_
  iterate 12 ((first | refine mixsq rfl rfl 0 (by decide +kernel) ?_ (fun w' hw' => Or.inl ?_) (fun K hK => ?_) | refine mixsq rfl rfl 1 (by decide +kernel) ?_ (fun w' hw' => Or.inl ?_) (fun K hK => ?_) | refine mixsq rfl rfl 2 (by decide +kernel) ?_ (fun w' hw' => Or.inl ?_) (fun K hK => ?_) | refine mixsq rfl rfl 3 (by decide +kernel) ?_ (fun w' hw' => Or.inl ?_) (fun K hK => ?_)); rotate_left; (focus (obtain ⟨z1, z2, z3⟩ := hw'; go_simp; rfl)); go_simp; refine hK _ ?_; clear hK K)
  refine mixsl rfl rfl (fun K hK => ?_)
  go_simp
  refine hWr.out.mono ?_
  rintro e wE ⟨rfl, hw⟩
  have hdr := hE0.out.below (drew_below w)
  obtain ⟨S', hKE, hcE, hsE⟩ := hdr.disk hw
  have hcE' : Chg S w wE := Chg.trans (b := w.drew) ⟨rfl, rfl, rfl, Nat.le_refl _, fun _ _ _ => rfl⟩ hcE
  have nE := Lib.hid (nE0.out.chg hcE' hkS.out hE0.out.dk.not8)
  have hfr : WReads gc g x.1 x.2.n (.slice bA 512 bc) wE := hwr.out wE S hcE' hgS.out.1 hgS.out.2
  refine hK (fun _ => True) _ _ (fun _ => ⟨trivial, fun _ => hfr⟩) ?_
  clear hK K
  (first | refine mixsq rfl rfl 0 (by decide +kernel) ?_ (fun w' hw' => Or.inl ?_) (fun K hK => ?_) | refine mixsq rfl rfl 1 (by decide +kernel) ?_ (fun w' hw' => Or.inl ?_) (fun K hK => ?_) | refine mixsq rfl rfl 2 (by decide +kernel) ?_ (fun w' hw' => Or.inl ?_) (fun K hK => ?_) | refine mixsq rfl rfl 3 (by decide +kernel) ?_ (fun w' hw' => Or.inl ?_) (fun K hK => ?_)); rotate_left; (focus (go_simp; rfl)); go_simp; refine hK _ ?_; clear hK K
  refine mixs_nil ?_
  have hE := Lib.hid hKE
  have hcE' := Lib.hid hcE'
  have hsE := Lib.hid hsE
  clear hw hdr hcE hfr hKE hr0 hWr hwr hE0 nE0 d2
  by_cases hq : (writeP d x.2.n x.2.b).1 = 0
  · have hqH := Lib.hid hq
    rw [hq]
    clear hq
    go_wp2_with fail
    refine (Out_calls wE hE.out.km).mono ?_
    rintro e w1 ⟨rfl, k1, n1, hx1, c1⟩
    obtain ⟨w2, hrun2, hq1, hq2, hcb2, hK3, hN3, hC3⟩ := hold_ev hE.out nE.out hkE.out hN k1 n1 c1
    have hq1 := Lib.hid hq1
    have hq2 := Lib.hid hq2
    have c11 : w2.cell? ⟨gc, 11, none⟩ = some (.int .i64 c.evs) := by
      obtain ⟨p, q, hB⟩ := hcb2
      exact hB.cell 11
    have f11 : w2.frozen? ⟨gc, 11, none⟩ = false := by
      obtain ⟨p, q, hB⟩ := hcb2
      exact hB.frozen 11
    have hA := Lib.hid hK3
    have nA := Lib.hid hN3
    have hC3 := Lib.hid hC3
    clear k1 n1 c1 hcb2 hK3 hN3 hE nE
    go_wp2_with fail
    refine wp_mixs (Reads gc mb x.1 x.2.n) [8] (by kernel_rfl) (by kernel_rfl) (by kernel_rfl) (by decide) hq1.out ?_
    iterate 8 ((first | refine mixsq rfl rfl 0 (by decide +kernel) ?_ (fun w' hw' => Or.inl ?_) (fun K hK => ?_) | refine mixsq rfl rfl 1 (by decide +kernel) ?_ (fun w' hw' => Or.inl ?_) (fun K hK => ?_) | refine mixsq rfl rfl 2 (by decide +kernel) ?_ (fun w' hw' => Or.inl ?_) (fun K hK => ?_) | refine mixsq rfl rfl 3 (by decide +kernel) ?_ (fun w' hw' => Or.inl ?_) (fun K hK => ?_)); rotate_left; (focus (obtain ⟨z1, z2⟩ := hw'; go_simp; rfl)); go_simp; refine hK _ ?_; clear hK K)
    refine mixsl rfl rfl (fun K hK => ?_)
    go_simp
    refine hK (fun _ => True) _ _ (fun _ => ⟨trivial, fun _ => hq2.out⟩) ?_
    clear hK K
    refine mixs_nil ?_
    obtain ⟨wA, hwA⟩ : ∃ wA, w2.setCell ⟨gc, 11, none⟩ (.int .i64 (winc c.evs)) = wA := ⟨_, rfl⟩
    rw [hwA] at hA nA hC3
    have hwA1 := hwA
    unfold winc at hwA1
    have hkA : Hid (k ∉ (u ++ v).map (·.1)) := fun hm => hkE.out (by
      rw [List.map_append, List.mem_append] at hm
      exact mem_all.2 (hm.imp id .inr))
    have hnumA : Hid (hd.n ∉ (u ++ v).map (·.2.n)) := fun hm => hnumE.out (by
      rw [List.map_append, List.map_cons, List.mem_append, List.mem_cons]
      rw [List.map_append, List.mem_append] at hm
      exact hm.imp id .inr)
    clear hrun2 hq1 hq2
    obtain ⟨wC, hrun, hr1, hr2, kC, nC, hend⟩ := hold_tail hA.out nA.out hkA.out hnumA.out hlo hN
    have c10 : wA.cell? ⟨gc, 10, none⟩ = some (.int .i64 c.misses) := by
      obtain ⟨p, q, hB⟩ := hA.out.km.cb
      exact hB.cell 10
    have f10 : wA.frozen? ⟨gc, 10, none⟩ = false := by
      obtain ⟨p, q, hB⟩ := hA.out.km.cb
      exact hB.frozen 10
    have hr1 := Lib.hid hr1
    have hr2 := Lib.hid hr2
    have kC := Lib.hid kC
    have nC := Lib.hid nC
    have hend := Lib.hid hend
    have hrun0 := Lib.hid hrun
    clear hA nA hrun
    obtain ⟨wB, hwB⟩ : ∃ wB, wA.setCell ⟨gc, 10, none⟩ (.int .i64 (winc c.misses)) = wB := ⟨_, rfl⟩
    have hwB1 := hwB
    unfold winc at hwB1
    have hrun := hrun0.out
    have hr1 := Lib.hid hr1.out
    try simp only [missC, evC] at hrun hr1
    rw [hwB] at hrun hr1
    go_wp2_with fail
    try rw [hwB1]
    refine wp_mixs (Reads gc mb k hd.n) [9] (by kernel_rfl) (by kernel_rfl) (by kernel_rfl) (by decide) hr1.out ?_
    iterate 9 ((first | refine mixsq rfl rfl 0 (by decide +kernel) ?_ (fun w' hw' => Or.inl ?_) (fun K hK => ?_) | refine mixsq rfl rfl 1 (by decide +kernel) ?_ (fun w' hw' => Or.inl ?_) (fun K hK => ?_) | refine mixsq rfl rfl 2 (by decide +kernel) ?_ (fun w' hw' => Or.inl ?_) (fun K hK => ?_) | refine mixsq rfl rfl 3 (by decide +kernel) ?_ (fun w' hw' => Or.inl ?_) (fun K hK => ?_)); rotate_left; (focus (obtain ⟨z1, z2⟩ := hw'; go_simp; rfl)); go_simp; refine hK _ ?_; clear hK K)
    refine mixsl rfl rfl (fun K hK => ?_)
    go_simp
    refine hK (fun _ => True) _ _ (fun _ => ⟨trivial, fun _ => hr2.out⟩) ?_
    clear hK K
    refine mixs_nil ?_
    clear hrun hrun0 hwB hwB1 c10 f10
    go_wp2_with fail
    refine (First_calls wC kC.out nC.out hkA.out).mono ?_
    rintro e wD ⟨rfl, kD, cD⟩
    obtain ⟨hKC, hCh⟩ := hend.out wD kD cD
    have hCall : Chg (fun j => footK gc mb (u ++ x :: v) j ∨ j = k) wE wD := (hC3.out.mono (fun j _ e => .inl e)).trans (hCh.mono (fun j _ e => by
      rcases e with (e | e | e) | e
      · exact .inl (.inl e)
      · exact .inl (.inr (.inl e))
      · rw [List.map_append, List.mem_append] at e
        exact .inl (.inr (.inr (mem_all.2 (e.imp id .inr))))
      · exact .inr e))
    have hCw : Chg (fun j => S j ∨ footK gc mb (u ++ x :: v) j ∨ j = k) w wD := (hcE'.out.mono (fun j _ e => .inl e)).trans (hCall.mono (fun j _ e => .inr e))
    have hfin := Lib.hid (show HoldOut w gc g mb N k c d u v x S hd wD from ⟨S', hsE.out, hCw, .inl ⟨hqH.out, hKC⟩⟩)
    clear kD cD hKC hCh hend hCall hCw
    go_wp2
    go_ret
    rw [hqH.out]
    exact ⟨rfl, hfin.out⟩
  · have hqb : (((writeP d x.2.n x.2.b).1 : Int) != 0) = true := by simpa using hq
    have hfin : Hid (HoldOut w gc g mb N k c d u v x S hd wE) :=
      ⟨S', hsE.out, hcE'.out.mono (fun j _ e => .inl e), .inr ⟨hq, hE.out⟩⟩
    clear hE hq nE hcE' hsE
    go_wp2
    go_ret
    exact ⟨rfl, hfin.out⟩
end Go.Proofs.Ytfapehgjiglflaa
