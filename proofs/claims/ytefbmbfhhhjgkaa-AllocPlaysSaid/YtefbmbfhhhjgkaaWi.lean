/- The log: Sync's steps; Sync. Printed by genwi.py. -/
import Derived.Test.YtefbmbfhhhjgkaaSrj
namespace Go.Proofs.Ytefbmbfhhhjgkaa
open Go.RowKit
theorem zero_slB (w : World) : (zeroValue 63).run Try.prog w = .ok (.slice none 0 0) w := by kernel_rfl
theorem DO.chgT {w w' : World} {g : Nat} {d : Dk} {S F S2 : Nat → Prop} (h : DO w g d S F) (hb : Chg S2 w w') (hS : ∀ k, S k → ¬ S2 k) (h8 : ∀ k cs, Blk w k 5 cs → ¬ S2 k) (hi : ∀ k cs, Blk w k 3 cs → ¬ S2 k) : DO w' g d S F :=
  ⟨h.dk.chg hb hS h8 hi, fun k hk => Nat.lt_of_lt_of_le (h.fl k hk) hb.size⟩
/-- What Sync's steps have captured: the log with its map, numbers of blocks. -/
structure LEnv (w : World) (g gl mb bn bl N : Nat) (mf : Nat → Option Value) (f : Nat → Option (List UInt8)) (x : Value) (ns : List Nat) : Prop where
  s : SEnv w g gl bn bl x ns
  c1 : ∃ cs, Blk w gl 74 cs ∧ cs[1]? = some (.map (some mb))
  mp : MBv (fun _ => True) w mb N mf f
def LKeep (w : World) (gl mb bn bl : Nat) (x : Value) (S : Nat → Prop) : Prop := SKeep gl bn bl x S ∧ ¬ S mb ∧ ∀ k cs, Blk w k 5 cs → ¬ S k
section
variable {w w' : World} {g gl mb bn bl N : Nat} {mf : Nat → Option Value} {f : Nat → Option (List UInt8)} {x : Value} {ns : List Nat} {S : Nat → Prop}
theorem LEnv.chg (h : LEnv w g gl mb bn bl N mf f x ns) (hc : Chg S w w') (hk : LKeep w gl mb bn bl x S) : LEnv w' g gl mb bn bl N mf f x ns :=
  ⟨h.s.chg hc hk.1, by
    obtain ⟨cs, h1, h2⟩ := h.c1
    exact ⟨cs, h1.chg hc hk.1.2.2.1, h2⟩, h.mp.chg hc hk.2.1 hk.2.2⟩
theorem LEnv.below (h : LEnv w g gl mb bn bl N mf f x ns) (hc : Below w.heap.size w w') : LEnv w' g gl mb bn bl N mf f x ns :=
  ⟨h.s.below hc, by
    obtain ⟨cs, h1, h2⟩ := h.c1
    exact ⟨cs, h1.chg (Chg.of_below hc) (S := fun _ => False) id, h2⟩, h.mp.below hc⟩
theorem LEnv.cell1 (h : LEnv w g gl mb bn bl N mf f x ns) : w.cell? ⟨gl, 1, none⟩ = some (.map (some mb)) := by
  obtain ⟨cs, h1, h2⟩ := h.c1
  rw [h1.cell 1, h2]
end
set_option maxRecDepth 10000 in
set_option maxHeartbeats 4000000 in
theorem y2_step (w0 : World) (S0 : Nat → Prop) (g gl N bn bl : Nat) (x : Value) (ns : List Nat) (hN : N ≤ 16384) {B : Nat} (hBB : B ≤ 900000000) (hE : SEnv w0 g gl bn bl x ns) (hk : SKeep gl bn bl x S0) (hxl : ∀ k, x.ownBlock = some k → k < w0.heap.size) (hns : ns.length ≤ 63) : StepOK w0 S0 g N B (.func (.func 63) #[] #[.pointer (some ⟨bl, 0, none⟩), .pointer (some ⟨bn, 0, none⟩)]) (wrW 0 (headP ns)) := by
  refine ⟨_, _, _, rfl, fun W => enters_of Try.func63 (by kernel_rfl) rfl _ W, fun W d S F hC hD hS hF => ?_⟩
  show Calls Try.prog 63 #[.pointer (some ⟨bl, 0, none⟩), .pointer (some ⟨bn, 0, none⟩)] W _
  have hE2 := hE.chg hC hk
  have hk2 := Lib.hid (hE.keep hk hxl hS)
  obtain ⟨xA, xc, rfl⟩ := hE2.rd.shapeN
  obtain ⟨q, hq⟩ : ∃ q, Hid (ns.length = q) := ⟨_, Lib.hid rfl⟩
  have hE2 := Lib.hid hE2
  have hnsh := Lib.hid hns
  rw [hq.out] at hE2 hk2
  have hD := Lib.hid hD
  have hF := Lib.hid hF
  clear hE hk hxl hC hS hns
  go_enter Try.func63, Try.ntmps63
  go_wp2_with fail
  refine wp_mixs (fun W => SEnv W g gl bn bl (.slice xA q xc) ns) [5, 6] (by kernel_rfl) (by kernel_rfl) (by kernel_rfl) (by decide) (show SEnv W.drew g gl bn bl (.slice xA q xc) ns from hE2.out.below ((Below.refl _ _).drew)) ?_
  iterate 5 ((first | refine mixsq rfl rfl 0 (by decide +kernel) ?_ (fun w' hw' => Or.inl ?_) (fun K hK => ?_) | refine mixsq rfl rfl 1 (by decide +kernel) ?_ (fun w' hw' => Or.inl ?_) (fun K hK => ?_) | refine mixsq rfl rfl 2 (by decide +kernel) ?_ (fun w' hw' => Or.inl ?_) (fun K hK => ?_) | refine mixsq rfl rfl 3 (by decide +kernel) ?_ (fun w' hw' => Or.inl ?_) (fun K hK => ?_) | refine mixsq rfl rfl 4 (by decide +kernel) ?_ (fun w' hw' => Or.inl ?_) (fun K hK => ?_) | refine mixsq rfl rfl 5 (by decide +kernel) ?_ (fun w' hw' => Or.inl ?_) (fun K hK => ?_) | refine mixsq rfl rfl 6 (by decide +kernel) ?_ (fun w' hw' => Or.inl ?_) (fun K hK => ?_) | refine mixsq rfl rfl 7 (by decide +kernel) ?_ (fun w' hw' => Or.inl ?_) (fun K hK => ?_)); rotate_left; (focus (have hc : SEnv w' g gl bn bl (.slice xA q xc) ns := hw'; have c1 := hc.bl.cell 0; have c2 := hc.cell; have c3 := hc.bn.cell 0; go_simp; rfl)); go_simp; refine hK _ ?_; clear hK K)
  refine mixsl rfl rfl (fun K hK => ?_)
  go_simp
  refine (head_calls W.drew (.slice xA q xc) ns (hE2.out.rd.drew) hnsh.out).mono ?_
  rintro e wa ⟨hb, hc, rfl, ho, hBa, _⟩
  have hBa : Below W.heap.size W wa := ⟨hBa.os, hBa.tape, hBa.output, hBa.size, hBa.block⟩
  have ba := hE2.out.below hBa
  refine hK (fun W => SEnv W g gl bn bl (.slice xA q xc) ns) _ _ (fun _ => ⟨ba, fun _ => ba⟩) ?_
  clear hK K
  refine mixsl rfl rfl (fun K hK => ?_)
  go_simp
  have hda := hD.out.below hBa
  refine (Write_callsO wa g d S hda 0 (.slice (some ⟨hb, 0, none⟩) 512 hc) (headP ns) (Rd.of_own ho) (by
    have h5 : Own8 wa (.slice (some ⟨hb, 0, none⟩) 512 hc) (headP ns) := ho
    exact hda.own8W h5) (by rw [headP_len hnsh.out]; omega) (by rw [hF.out.dl]; exact hN) (by have := hF.out.wt; omega) hF.out.ar hF.out.pk).mono ?_
  rintro e wb ⟨rfl, hw⟩
  have bb : SEnv wb g gl bn bl (.slice xA q xc) ns := by
    obtain ⟨S', _, _, hc, _⟩ := hw
    exact ba.chg hc hk2.out
  refine hK (fun W => SEnv W g gl bn bl (.slice xA q xc) ns) _ _ (fun _ => ⟨bb, ext_all (fun _ => bb) bb⟩) ?_
  clear hK K
  (first | refine mixsq rfl rfl 0 (by decide +kernel) ?_ (fun w' hw' => Or.inl ?_) (fun K hK => ?_) | refine mixsq rfl rfl 1 (by decide +kernel) ?_ (fun w' hw' => Or.inl ?_) (fun K hK => ?_) | refine mixsq rfl rfl 2 (by decide +kernel) ?_ (fun w' hw' => Or.inl ?_) (fun K hK => ?_) | refine mixsq rfl rfl 3 (by decide +kernel) ?_ (fun w' hw' => Or.inl ?_) (fun K hK => ?_) | refine mixsq rfl rfl 4 (by decide +kernel) ?_ (fun w' hw' => Or.inl ?_) (fun K hK => ?_) | refine mixsq rfl rfl 5 (by decide +kernel) ?_ (fun w' hw' => Or.inl ?_) (fun K hK => ?_) | refine mixsq rfl rfl 6 (by decide +kernel) ?_ (fun w' hw' => Or.inl ?_) (fun K hK => ?_) | refine mixsq rfl rfl 7 (by decide +kernel) ?_ (fun w' hw' => Or.inl ?_) (fun K hK => ?_)); rotate_left; (focus (go_simp; rfl)); go_simp; refine hK _ ?_; clear hK K
  refine mixs_nil ?_
  have hfin := Lib.hid (WroteO.from hBa hw)
  clear hw hda ho hBa ba bb
  go_wp2
  go_ret
  exact ⟨rfl, hfin.out⟩
set_option maxRecDepth 10000 in
set_option maxHeartbeats 4000000 in
theorem y3_step (w0 : World) (S0 : Nat → Prop) (g gl N bn bl : Nat) (x : Value) (ns : List Nat) (hN : N ≤ 16384) {B : Nat} (hBB : B ≤ 850000000) (hE : SEnv w0 g gl bn bl x ns) (hk : SKeep gl bn bl x S0) (hxl : ∀ k, x.ownBlock = some k → k < w0.heap.size) (hns : ns.length ≤ 63) (hnm : ∀ n ∈ ns, n ≤ 1000000) : StepOK w0 S0 g N B (.func (.func 64) #[] #[.pointer (some ⟨bl, 0, none⟩), .pointer (some ⟨bn, 0, none⟩)]) (settleW ns) := by
  refine ⟨_, _, _, rfl, fun W => enters_of Try.func64 (by kernel_rfl) rfl _ W, fun W d S F hC hD hS hF => ?_⟩
  show Calls Try.prog 64 #[.pointer (some ⟨bl, 0, none⟩), .pointer (some ⟨bn, 0, none⟩)] W _
  have hE2 := hE.chg hC hk
  have hk2 := hE.keep hk hxl hS
  obtain ⟨cs, hl, hl0⟩ := hE2.lg
  have hS3 := Lib.hid (settle_calls W hD hF (by omega) hN hl hl0 hk2.2.2.1 x ns hE2.rd hk2.2.2.2 (fun k hk => Nat.lt_of_lt_of_le (hxl k hk) hC.size) hns hnm)
  obtain ⟨xA, xc, rfl⟩ := hE2.rd.shapeN
  have c1 := hE2.bl.cell 0
  have c2 := hE2.bn.cell 0
  obtain ⟨q, hq⟩ : ∃ q, Hid (ns.length = q) := ⟨_, Lib.hid rfl⟩
  rw [hq.out] at hS3 c2
  clear hE hk hxl hC hS hns hE2 hk2 hl hl0 hD hF
  go_enter Try.func64, Try.ntmps64
  go_wp2_with fail
  refine hS3.out.mono ?_
  rintro e w1 ⟨rfl, hw⟩
  have hw := Lib.hid hw
  clear hS3
  go_wp2
  go_ret
  exact ⟨rfl, hw.out⟩
set_option maxRecDepth 10000 in
set_option maxHeartbeats 8000000 in
theorem y1_step (w0 : World) (S0 : Nat → Prop) (g gl mb N N2 bn bl : Nat) (mf : Nat → Option Value) (f : Nat → Option (List UInt8)) (x : Value) (ns : List Nat) (hN : N ≤ 16384) {B : Nat} (hBB : B ≤ 900000000) (hE : LEnv w0 g gl mb bn bl N2 mf f x ns) (hk : LKeep w0 gl mb bn bl x S0) (hxl : ∀ k, x.ownBlock = some k → k < w0.heap.size) (hns : ns.length ≤ 63) (hnm : ∀ n ∈ ns, n ≤ 1000000 ∧ (f n).isSome = true) : StepOK w0 S0 g N B (.func (.func 62) #[] #[.pointer (some ⟨bn, 0, none⟩), .pointer (some ⟨bl, 0, none⟩)]) (copiesW ns f) := by
  refine ⟨_, _, _, rfl, fun W => enters_of Try.func62 (by kernel_rfl) rfl _ W, fun W d S F hC hD hS hF => ?_⟩
  show Calls Try.prog 62 #[.pointer (some ⟨bn, 0, none⟩), .pointer (some ⟨bl, 0, none⟩)] W _
  have hE2 := hE.chg hC hk
  have hk2 : Hid (LKeep W gl mb bn bl x S) := ⟨hE.s.keep hk.1 hxl hS, fun hs => (hS _ hs).elim hk.2.1 (Nat.not_le.2 hE.mp.im.lt), hD.not8⟩
  have hxW : Hid (∀ k, x.ownBlock = some k → k < W.heap.size) := fun k h => Nat.lt_of_lt_of_le (hxl k h) hC.size
  obtain ⟨out, ho⟩ : ∃ out, Hid (copiesW ns f d = out) := ⟨_, Lib.hid rfl⟩
  rw [ho.out]
  have h0 : Hid (DO W g d S F ∧ Fit N B d) := ⟨hD, hF⟩
  have hNh := Lib.hid hN
  obtain ⟨xA, xc, rfl⟩ := hE2.s.rd.shapeN
  obtain ⟨L, hL⟩ : ∃ L, Hid (ns.length = L) := ⟨_, Lib.hid rfl⟩
  have c0 : W.cell? ⟨bn, 0, none⟩ = some (.slice xA ns.length xc) := hE2.s.bn.cell 0
  have hE2 := Lib.hid hE2
  rw [hL.out] at hE2 hk2 c0 hns hxW
  have hnmh := Lib.hid hnm
  clear hE hk hC hS hD hF hxl hnm
  go_enter Try.func62, Try.ntmps62
  go_wp2
  go_loopw [8] (fun iv wr => ∃ (k : Nat) (dk : Dk) (Sk Fk : Nat → Prop), k ≤ L ∧ iv = .int .i64 (k : Int) ∧ Hid (DO wr g dk Sk Fk) ∧ Hid (Fit N (B + k) dk) ∧ Hid (Chg S W wr) ∧ Hid (∀ j, Sk j → S j ∨ W.heap.size ≤ j) ∧ Hid (∀ j, Fk j → F j ∨ W.heap.size ≤ j) ∧ Hid (seqW (((List.range ns.length).map fun i => wrW ((1 + i : Nat) : Int) ((f (ns.getD i 0)).getD [])).drop k) dk = out)) (fun iv _ => L - (RowKit.intOf iv).toNat)
  case atStart => exact ⟨0, d, S, F, Nat.zero_le _, rfl, h0.out.1, h0.out.2, Chg.refl _ _, fun _ h => .inl h, fun _ h => .inl h, ho⟩
  case round =>
    obtain ⟨k, dk, Sk, Fk, hk, rfl, hD, hF, hC, hS, hFF, hO⟩ := hrel
    clear h0
    by_cases hkn : k < L
    · have hkl : k < ns.length := by rw [hL.out]; exact hkn
      have hE3 := hE2.out.chg hC.out hk2.out
      have hkk : Hid (LKeep wr gl mb bn bl (.slice xA L xc) Sk) := ⟨hE2.out.s.keep hk2.out.1 hxW.out hS.out, fun hs => (hS.out _ hs).elim hk2.out.2.1 (Nat.not_le.2 hE2.out.mp.im.lt), hD.out.not8⟩
      obtain ⟨ad, had, cn⟩ := hE3.s.rd.natAt hkl
      subst had
      obtain ⟨nk, hnk⟩ : ∃ nk, Hid (ns[k]'hkl = nk) := ⟨_, Lib.hid rfl⟩
      have hnm := hnmh.out _ (List.getElem_mem hkl)
      rw [hnk.out] at cn hnm
      obtain ⟨hn1, hn2⟩ := hnm
      have hgd : Hid (ns.getD k 0 = nk) := by
        show _ = _
        rw [← hnk.out, List.getD_eq_getElem?_getD, List.getElem?_eq_getElem hkl]
        rfl
      obtain ⟨bs, v, hfn, hmf, hb5, hrv⟩ : ∃ bs v, f nk = some bs ∧ mf nk = some v ∧ bs.length = 512 ∧ RdT (fun _ => True) 5 wr v (bvs bs) := by
        rcases hE3.mp.at_ nk with ⟨h1, _⟩ | h1
        · rw [h1] at hn2; cases hn2
        · exact h1
      obtain ⟨vA, vc, rfl⟩ := hrv.shape
      rw [bvs_length, hb5] at hmf hrv
      have hdr : Hid (seqW (wrW ((1 + k : Nat) : Int) bs :: ((List.range ns.length).map fun i => wrW ((1 + i : Nat) : Int) ((f (ns.getD i 0)).getD [])).drop (k + 1)) dk = out) := by
        show _ = _
        rw [← hO.out]
        congr 1
        have e := List.drop_eq_getElem_cons (l := (List.range ns.length).map fun i => wrW ((1 + i : Nat) : Int) ((f (ns.getD i 0)).getD [])) (i := k) (by simpa using hkl)
        rw [e]
        congr 1
        rw [List.getElem_map, List.getElem_range, hgd.out, hfn]
        rfl
      have hxo : ∀ j, (Value.slice vA 512 vc).ownBlock = some j → ¬ Sk j := fun j hj => by
        obtain ⟨j', cs, e, hb, _⟩ := hrv.2 (by intro e; have := congrArg List.length e; rw [bvs_length, hb5] at this; cases this)
        rw [e] at hj
        cases hj
        exact hD.out.not8 _ cs hb
      have hWr := Lib.hid (Write_callsO wr.drew g dk Sk (hD.out.below ((Below.refl _ _).drew)) ((1 + k : Nat) : Int) (.slice vA 512 vc) bs hrv.1.drew hxo (by rw [hb5]; omega) (by rw [hF.out.dl]; exact hNh.out) (by have := hF.out.wt; omega) hF.out.ar hF.out.pk)
      rw [show ((1 + k : Nat) : Int) = 1 + (k : Int) by omega] at hWr
      have hmfh := Lib.hid hmf
      have hE3 := Lib.hid hE3
      have hn1 := Lib.hid hn1
      have hn1o := hn1.out
      clear hO hrv hxo hmf hfn hb5 hn2 hnk hgd hkl
      have hwk : IntKind.i64.wrap (1 + (k : Int)) = 1 + (k : Int) := by rw [IntKind.wrap_i64]; omega
      go_wp2_with fail
      refine wp_mixs (fun W => LEnv W g gl mb bn bl N2 mf f (.slice (some ad) L xc) ns) [12] (by kernel_rfl) (by kernel_rfl) (by kernel_rfl) (by decide) (show LEnv wr.drew g gl mb bn bl N2 mf f (.slice (some ad) L xc) ns from hE3.out.below ((Below.refl _ _).drew)) ?_
      iterate 12 ((first | refine mixsq rfl rfl 0 (by decide +kernel) ?_ (fun w' hw' => Or.inl ?_) (fun K hK => ?_) | refine mixsq rfl rfl 1 (by decide +kernel) ?_ (fun w' hw' => Or.inl ?_) (fun K hK => ?_) | refine mixsq rfl rfl 2 (by decide +kernel) ?_ (fun w' hw' => Or.inl ?_) (fun K hK => ?_) | refine mixsq rfl rfl 3 (by decide +kernel) ?_ (fun w' hw' => Or.inl ?_) (fun K hK => ?_) | refine mixsq rfl rfl 4 (by decide +kernel) ?_ (fun w' hw' => Or.inl ?_) (fun K hK => ?_) | refine mixsq rfl rfl 5 (by decide +kernel) ?_ (fun w' hw' => Or.inl ?_) (fun K hK => ?_) | refine mixsq rfl rfl 6 (by decide +kernel) ?_ (fun w' hw' => Or.inl ?_) (fun K hK => ?_) | refine mixsq rfl rfl 7 (by decide +kernel) ?_ (fun w' hw' => Or.inl ?_) (fun K hK => ?_)); rotate_left; (focus (have hc : LEnv w' g gl mb bn bl N2 mf f (.slice (some ad) L xc) ns := hw'; have c1 := hc.s.bl.cell 0; have c2 := hc.s.cell; have c3 := hc.cell1; have c5 : (Instr.lookup 72 (.map (some mb)) (.int .i64 (nk : Int)) false).run Try.prog w' = .ok (.slice vA 512 vc) w' := (by have h := hc.mp.im.run_lookup Try.underlying3 Try.underlying72 (zero_slB w') (k := nk) (by have := hn1.out; omega); rw [hmfh.out] at h; exact h); go_simp; rfl)); go_simp; refine hK _ ?_; clear hK K)
      refine mixsl rfl rfl (fun K hK => ?_)
      go_simp
      refine hWr.out.mono ?_
      rintro e wb ⟨rfl, hw⟩
      rw [show 1 + (k : Int) = ((1 + k : Nat) : Int) by omega] at hw ⊢
      have hw : WroteO wr Sk Fk g (writeP dk ((1 + k : Nat) : Int) bs).2 wb := WroteO.from ((Below.refl _ _).drew) hw
      obtain ⟨er, her⟩ : ∃ r, Hid ((writeP dk ((1 + k : Nat) : Int) bs).1 = r) := ⟨_, Lib.hid rfl⟩
      obtain ⟨dn, hdn⟩ : ∃ r, Hid ((writeP dk ((1 + k : Nat) : Int) bs).2 = r) := ⟨_, Lib.hid rfl⟩
      have hst4 : Hid (wrW ((1 + k : Nat) : Int) bs dk = (er, dn)) := by show writeP _ _ _ = _; rw [← her.out, ← hdn.out]
      rw [her.out]
      rw [hdn.out] at hw
      have bb : LEnv wb g gl mb bn bl N2 mf f (.slice (some ad) L xc) ns := by
        obtain ⟨S', _, _, hc, _⟩ := hw
        exact hE3.out.chg hc hkk.out
      refine hK (fun W => LEnv W g gl mb bn bl N2 mf f (.slice (some ad) L xc) ns) _ _ (fun _ => ⟨bb, fun _ => bb⟩) ?_
      clear hK K bb hWr
      (first | refine mixsq rfl rfl 0 (by decide +kernel) ?_ (fun w' hw' => Or.inl ?_) (fun K hK => ?_) | refine mixsq rfl rfl 1 (by decide +kernel) ?_ (fun w' hw' => Or.inl ?_) (fun K hK => ?_) | refine mixsq rfl rfl 2 (by decide +kernel) ?_ (fun w' hw' => Or.inl ?_) (fun K hK => ?_) | refine mixsq rfl rfl 3 (by decide +kernel) ?_ (fun w' hw' => Or.inl ?_) (fun K hK => ?_) | refine mixsq rfl rfl 4 (by decide +kernel) ?_ (fun w' hw' => Or.inl ?_) (fun K hK => ?_) | refine mixsq rfl rfl 5 (by decide +kernel) ?_ (fun w' hw' => Or.inl ?_) (fun K hK => ?_) | refine mixsq rfl rfl 6 (by decide +kernel) ?_ (fun w' hw' => Or.inl ?_) (fun K hK => ?_) | refine mixsq rfl rfl 7 (by decide +kernel) ?_ (fun w' hw' => Or.inl ?_) (fun K hK => ?_)); rotate_left; (focus (go_simp; rfl)); go_simp; refine hK _ ?_; clear hK K
      refine mixs_nil ?_
      have hfn : Hid (Fit N (B + (k + 1)) dn) := by
        have := Gr.write N ((1 + k : Nat) : Int) bs _ _ hF.out
        rw [hst4.out] at this
        exact this
      obtain ⟨Sn, Fn, d1, d2, d3, d4⟩ := WroteO.trans hC.out hS.out hFF.out hw
      have d1 := Lib.hid d1
      have d2 := Lib.hid d2
      have d3 := Lib.hid d3
      have d4 := Lib.hid d4
      clear her hdn hw hC hS hFF hD hF hE3 hkk cn
      by_cases h0 : er = 0
      · subst h0
        have d6 : Hid (seqW (((List.range ns.length).map fun i => wrW ((1 + i : Nat) : Int) ((f (ns.getD i 0)).getD [])).drop (k + 1)) dn = out) := by
          show _ = _
          rw [← hdr.out, seqW_step (by rw [hst4.out]), hst4.out]
        clear hst4 hdr
        go_wp2
        go_roundw
        case rel => exact ⟨k + 1, dn, Sn, Fn, by omega, by go_num, d1, hfn, d2, d3, d4, d6⟩
        case measure => simp [RowKit.intOf]; omega
      · have hf : Hid (out.1 = er ∧ WroteO W S F g out.2 wb) := by
          have h4 : out = (er, dn) := by rw [← hdr.out, seqW_stop (by rw [hst4.out]; exact h0), hst4.out]
          rw [h4]
          exact ⟨rfl, Sn, Fn, d1.out, d2.out, d3.out, d4.out⟩
        clear hst4 hdr d1 d2 d3 d4
        go_wp2
        go_ret
        exact ⟨by rw [hf.out.1]; rfl, hf.out.2⟩
    · obtain rfl : k = L := by omega
      have hfin : Hid (out.1 = 0 ∧ WroteO W S F g out.2 wr) := by
        have h1 := hO.out
        rw [List.drop_eq_nil_of_le (by simp [hL.out])] at h1
        rw [← h1]
        exact ⟨rfl, _, _, hD.out, hC.out, hS.out, hFF.out⟩
      clear hO hD
      go_wp2
      go_ret
      exact ⟨by rw [hfin.out.1]; rfl, hfin.out.2⟩
end Go.Proofs.Ytefbmbfhhhjgkaa
