/- The log: copies are brought to where they belong. Printed by genwh.py. -/
import Derived.Test.YtefbmbfhhhjgkaaWg
namespace Go.Proofs.Ytefbmbfhhhjgkaa
open Go.RowKit
/-- What the log's steps have captured: the log, numbers of blocks. -/
structure SEnv (w : World) (g gl bn bl : Nat) (x : Value) (ns : List Nat) : Prop where
  bn : Blk w bn 22 #[x]
  bl : Blk w bl 24 #[.pointer (some ⟨gl, 0, none⟩)]
  lg : ∃ cs, Blk w gl 74 cs ∧ cs[0]? = some (.pointer (some ⟨g, 0, none⟩))
  rd : Rd w x (nvs ns)
/-- The blocks that they read. -/
def SKeep (gl bn bl : Nat) (x : Value) (S : Nat → Prop) : Prop := ¬ S bn ∧ ¬ S bl ∧ ¬ S gl ∧ ∀ k, x.ownBlock = some k → ¬ S k
theorem SEnv.chg {w w' : World} {g gl bn bl : Nat} {x : Value} {ns : List Nat} {S : Nat → Prop} (h : SEnv w g gl bn bl x ns) (hc : Chg S w w') (hk : SKeep gl bn bl x S) : SEnv w' g gl bn bl x ns :=
  ⟨h.bn.chg hc hk.1, h.bl.chg hc hk.2.1, by
    obtain ⟨cs, h1, h2⟩ := h.lg
    exact ⟨cs, h1.chg hc hk.2.2.1, h2⟩, h.rd.chg hc hk.2.2.2⟩
theorem SEnv.below {w w' : World} {g gl bn bl : Nat} {x : Value} {ns : List Nat} (h : SEnv w g gl bn bl x ns) (hc : Below w.heap.size w w') : SEnv w' g gl bn bl x ns :=
  h.chg (S := fun _ => False) (Chg.of_below hc) ⟨id, id, id, fun _ _ => id⟩
theorem SEnv.cell {w : World} {g gl bn bl : Nat} {x : Value} {ns : List Nat} (h : SEnv w g gl bn bl x ns) : w.cell? ⟨gl, 0, none⟩ = some (.pointer (some ⟨g, 0, none⟩)) := by
  obtain ⟨cs, h1, h2⟩ := h.lg
  rw [h1.cell 0, h2]
/-- What is kept stays so where S grows by new blocks. -/
theorem SEnv.keep {w0 : World} {g gl bn bl : Nat} {x : Value} {ns : List Nat} {S0 S : Nat → Prop} (h : SEnv w0 g gl bn bl x ns) (hk : SKeep gl bn bl x S0) (hx : ∀ k, x.ownBlock = some k → k < w0.heap.size) (hS : ∀ k, S k → S0 k ∨ w0.heap.size ≤ k) : SKeep gl bn bl x S := by
  obtain ⟨cs, h1, _⟩ := h.lg
  refine ⟨fun hs => (hS _ hs).elim hk.1 (Nat.not_le.2 h.bn.lt), fun hs => (hS _ hs).elim hk.2.1 (Nat.not_le.2 h.bl.lt), fun hs => (hS _ hs).elim hk.2.2.1 (Nat.not_le.2 h1.lt), fun k hk2 hs => (hS _ hs).elim (hk.2.2.2 k hk2) (Nat.not_le.2 (hx k hk2))⟩
set_option maxRecDepth 10000 in
set_option maxHeartbeats 4000000 in
theorem s2_step (w0 : World) (S0 : Nat → Prop) (g gl N bn bl : Nat) (x : Value) (ns : List Nat) (hN : N ≤ 16384) {B : Nat} (hBB : B ≤ 900000000) (hE : SEnv w0 g gl bn bl x ns) (hk : SKeep gl bn bl x S0) (hxl : ∀ k, x.ownBlock = some k → k < w0.heap.size) : StepOK w0 S0 g N B (.func (.func 83) #[] #[.pointer (some ⟨bl, 0, none⟩)]) (wrW 0 (headP [])) := by
  refine ⟨_, _, _, rfl, fun W => enters_of Try.func83 (by kernel_rfl) rfl _ W, fun W d S F hC hD hS hF => ?_⟩
  show Calls Try.prog 83 #[.pointer (some ⟨bl, 0, none⟩)] W _
  have hE2 := Lib.hid (hE.chg hC hk)
  have hk2 := Lib.hid (hE.keep hk hxl hS)
  have hD := Lib.hid hD
  have hF := Lib.hid hF
  clear hE hk hxl hC hS
  go_enter Try.func83, Try.ntmps83
  go_wp2_with fail
  refine wp_mixs (fun W => SEnv W g gl bn bl x ns) [4, 5] (by kernel_rfl) (by kernel_rfl) (by kernel_rfl) (by decide) (show SEnv W.drew g gl bn bl x ns from hE2.out.below ((Below.refl _ _).drew)) ?_
  iterate 4 ((first | refine mixsq rfl rfl 0 (by decide +kernel) ?_ (fun w' hw' => Or.inl ?_) (fun K hK => ?_) | refine mixsq rfl rfl 1 (by decide +kernel) ?_ (fun w' hw' => Or.inl ?_) (fun K hK => ?_) | refine mixsq rfl rfl 2 (by decide +kernel) ?_ (fun w' hw' => Or.inl ?_) (fun K hK => ?_) | refine mixsq rfl rfl 3 (by decide +kernel) ?_ (fun w' hw' => Or.inl ?_) (fun K hK => ?_) | refine mixsq rfl rfl 4 (by decide +kernel) ?_ (fun w' hw' => Or.inl ?_) (fun K hK => ?_) | refine mixsq rfl rfl 5 (by decide +kernel) ?_ (fun w' hw' => Or.inl ?_) (fun K hK => ?_) | refine mixsq rfl rfl 6 (by decide +kernel) ?_ (fun w' hw' => Or.inl ?_) (fun K hK => ?_) | refine mixsq rfl rfl 7 (by decide +kernel) ?_ (fun w' hw' => Or.inl ?_) (fun K hK => ?_)); rotate_left; (focus (have hc : SEnv w' g gl bn bl x ns := hw'; have c1 := hc.bl.cell 0; have c2 := hc.cell; have c3 := hc.bn.cell 0; go_simp; rfl)); go_simp; refine hK _ ?_; clear hK K)
  refine mixsl rfl rfl (fun K hK => ?_)
  go_simp
  refine (head_calls W.drew (.slice none 0 0) [] (Rd.nil _ _ _) (by decide)).mono ?_
  rintro e wa ⟨hb, hc, rfl, ho, hBa, _⟩
  have hBa : Below W.heap.size W wa := ⟨hBa.os, hBa.tape, hBa.output, hBa.size, hBa.block⟩
  have ba := hE2.out.below hBa
  refine hK (fun W => SEnv W g gl bn bl x ns) _ _ (fun _ => ⟨ba, fun _ => ba⟩) ?_
  clear hK K
  refine mixsl rfl rfl (fun K hK => ?_)
  go_simp
  have hda := hD.out.below hBa
  refine (Write_callsO wa g d S hda 0 (.slice (some ⟨hb, 0, none⟩) 512 hc) (headP []) (Rd.of_own ho) (by
    have h5 : Own8 wa (.slice (some ⟨hb, 0, none⟩) 512 hc) (headP []) := ho
    exact hda.own8W h5) (by rw [headP_len (by decide)]; omega) (by rw [hF.out.dl]; exact hN) (by have := hF.out.wt; omega) hF.out.ar hF.out.pk).mono ?_
  rintro e wb ⟨rfl, hw⟩
  have bb : SEnv wb g gl bn bl x ns := by
    obtain ⟨S', _, _, hc, _⟩ := hw
    exact ba.chg hc hk2.out
  refine hK (fun W => SEnv W g gl bn bl x ns) _ _ (fun _ => ⟨bb, ext_all (fun _ => bb) bb⟩) ?_
  clear hK K
  (first | refine mixsq rfl rfl 0 (by decide +kernel) ?_ (fun w' hw' => Or.inl ?_) (fun K hK => ?_) | refine mixsq rfl rfl 1 (by decide +kernel) ?_ (fun w' hw' => Or.inl ?_) (fun K hK => ?_) | refine mixsq rfl rfl 2 (by decide +kernel) ?_ (fun w' hw' => Or.inl ?_) (fun K hK => ?_) | refine mixsq rfl rfl 3 (by decide +kernel) ?_ (fun w' hw' => Or.inl ?_) (fun K hK => ?_) | refine mixsq rfl rfl 4 (by decide +kernel) ?_ (fun w' hw' => Or.inl ?_) (fun K hK => ?_) | refine mixsq rfl rfl 5 (by decide +kernel) ?_ (fun w' hw' => Or.inl ?_) (fun K hK => ?_) | refine mixsq rfl rfl 6 (by decide +kernel) ?_ (fun w' hw' => Or.inl ?_) (fun K hK => ?_) | refine mixsq rfl rfl 7 (by decide +kernel) ?_ (fun w' hw' => Or.inl ?_) (fun K hK => ?_)); rotate_left; (focus (go_simp; rfl)); go_simp; refine hK _ ?_; clear hK K
  refine mixs_nil ?_
  have hfin := Lib.hid (WroteO.from hBa hw)
  clear hw hda ho hBa ba bb
  go_wp2
  go_ret
  exact ⟨rfl, hfin.out⟩
set_option maxRecDepth 10000 in
set_option maxHeartbeats 8000000 in
theorem s1_step (w0 : World) (S0 : Nat → Prop) (g gl N bn bl : Nat) (x : Value) (ns : List Nat) (hN : N ≤ 16384) {B : Nat} (hBB : B ≤ 900000000) (hE : SEnv w0 g gl bn bl x ns) (hk : SKeep gl bn bl x S0) (hxl : ∀ k, x.ownBlock = some k → k < w0.heap.size) (hns : ns.length ≤ 63) (hnm : ∀ n ∈ ns, n ≤ 1000000) : StepOK w0 S0 g N B (.func (.func 82) #[] #[.pointer (some ⟨bn, 0, none⟩), .pointer (some ⟨bl, 0, none⟩)]) (homeW ns) := by
  refine ⟨_, _, _, rfl, fun W => enters_of Try.func82 (by kernel_rfl) rfl _ W, fun W d S F hC hD hS hF => ?_⟩
  show Calls Try.prog 82 #[.pointer (some ⟨bn, 0, none⟩), .pointer (some ⟨bl, 0, none⟩)] W _
  have hE2 := hE.chg hC hk
  have hk2 := Lib.hid (hE.keep hk hxl hS)
  have hxW : Hid (∀ k, x.ownBlock = some k → k < W.heap.size) := fun k h => Nat.lt_of_lt_of_le (hxl k h) hC.size
  obtain ⟨out, ho⟩ : ∃ out, Hid (homeW ns d = out) := ⟨_, Lib.hid rfl⟩
  rw [ho.out]
  have h0 : Hid (DO W g d S F ∧ Fit N B d) := ⟨hD, hF⟩
  have hNh := Lib.hid hN
  obtain ⟨xA, xc, rfl⟩ := hE2.rd.shapeN
  obtain ⟨L, hL⟩ : ∃ L, Hid (ns.length = L) := ⟨_, Lib.hid rfl⟩
  have c0 : W.cell? ⟨bn, 0, none⟩ = some (.slice xA ns.length xc) := hE2.bn.cell 0
  have hE2 := Lib.hid hE2
  rw [hL.out] at hE2 hk2 c0 hns hxW
  have hnmh := Lib.hid hnm
  clear hE hk hC hS hD hF hxl hnm
  go_enter Try.func82, Try.ntmps82
  go_wp2
  go_loopw [9] (fun iv wr => ∃ (k : Nat) (dk : Dk) (Sk Fk : Nat → Prop), k ≤ L ∧ iv = .int .i64 (k : Int) ∧ Hid (DO wr g dk Sk Fk) ∧ Hid (Fit N (B + k) dk) ∧ Hid (Chg S W wr) ∧ Hid (∀ j, Sk j → S j ∨ W.heap.size ≤ j) ∧ Hid (∀ j, Fk j → F j ∨ W.heap.size ≤ j) ∧ Hid (seqW (((List.range ns.length).map fun i => copyW ((1 + i : Nat) : Int) ((65 + ns.getD i 0 : Nat) : Int)).drop k) dk = out)) (fun iv _ => L - (RowKit.intOf iv).toNat)
  case atStart => exact ⟨0, d, S, F, Nat.zero_le _, rfl, h0.out.1, h0.out.2, Chg.refl _ _, fun _ h => .inl h, fun _ h => .inl h, ho⟩
  case round =>
    obtain ⟨k, dk, Sk, Fk, hk, rfl, hD, hF, hC, hS, hFF, hO⟩ := hrel
    clear h0
    by_cases hkn : k < L
    · have hkl : k < ns.length := by rw [hL.out]; exact hkn
      have hE3 := hE2.out.chg hC.out hk2.out
      have hkk := Lib.hid (hE2.out.keep hk2.out hxW.out hS.out)
      have c1 := hE3.bl.cell 0
      have c2 := hE3.cell
      obtain ⟨ad, had, cn⟩ := hE3.rd.natAt hkl
      subst had
      have hE3 := Lib.hid hE3
      obtain ⟨nk, hnk⟩ : ∃ nk, Hid (ns[k]'hkl = nk) := ⟨_, Lib.hid rfl⟩
      have hnm : nk ≤ 1000000 := by rw [← hnk.out]; exact hnmh.out _ (List.getElem_mem hkl)
      have hgd : Hid (ns.getD k 0 = nk) := by
        show _ = _
        rw [← hnk.out, List.getD_eq_getElem?_getD, List.getElem?_eq_getElem hkl]
        rfl
      rw [hnk.out] at cn
      have hst : Hid (copyW ((1 + k : Nat) : Int) ((65 + nk : Nat) : Int) dk = if askP dk ((1 + k : Nat) : Int) ≠ 0 then (askP dk ((1 + k : Nat) : Int), dk) else writeP dk ((65 + nk : Nat) : Int) (lastP dk (1 + k))) := rfl
      have hdr : Hid (seqW (copyW ((1 + k : Nat) : Int) ((65 + nk : Nat) : Int) :: ((List.range ns.length).map fun i => copyW ((1 + i : Nat) : Int) ((65 + ns.getD i 0 : Nat) : Int)).drop (k + 1)) dk = out) := by
        show _ = _
        rw [← hO.out]
        congr 1
        have e := List.drop_eq_getElem_cons (l := (List.range ns.length).map fun i => copyW ((1 + i : Nat) : Int) ((65 + ns.getD i 0 : Nat) : Int)) (i := k) (by simpa using hkl)
        rw [e]
        congr 1
        rw [List.getElem_map, List.getElem_range, hgd.out]
      have hRd := Lib.hid (Read_callsO wr g dk Sk hD.out ((1 + k : Nat) : Int) (by rw [hF.out.dl]; exact hNh.out) (fun vs hvs => by have := waitP_le dk hvs; have := hF.out.wt; omega))
      have hfin : ∀ (r : Int) (dn : Dk) (wq : World), copyW ((1 + k : Nat) : Int) ((65 + nk : Nat) : Int) dk = (r, dn) → r ≠ 0 → WroteO wr Sk Fk g dn wq → Hid (out.1 = r ∧ WroteO W S F g out.2 wq) := fun r dn wq h1 h2 h3 => by
        have h4 : out = (r, dn) := by rw [← hdr.out, seqW_stop (by rw [h1]; exact h2), h1]
        rw [h4]
        exact ⟨rfl, WroteO.trans hC.out hS.out hFF.out h3⟩
      have hfin := Lib.hid hfin
      have hnext : ∀ (dn : Dk) (wq : World), copyW ((1 + k : Nat) : Int) ((65 + nk : Nat) : Int) dk = (0, dn) → WroteO wr Sk Fk g dn wq → Hid (∃ Sn Fn, DO wq g dn Sn Fn ∧ Fit N (B + (k + 1)) dn ∧ Chg S W wq ∧ (∀ j, Sn j → S j ∨ W.heap.size ≤ j) ∧ (∀ j, Fn j → F j ∨ W.heap.size ≤ j) ∧ seqW (((List.range ns.length).map fun i => copyW ((1 + i : Nat) : Int) ((65 + ns.getD i 0 : Nat) : Int)).drop (k + 1)) dn = out) := fun dn wq h1 h2 => by
        obtain ⟨Sn, Fn, d1, d2, d3, d4⟩ := WroteO.trans hC.out hS.out hFF.out h2
        refine ⟨Sn, Fn, d1, ?_, d2, d3, d4, ?_⟩
        · have := Gr.copy N ((1 + k : Nat) : Int) ((65 + nk : Nat) : Int) _ _ hF.out
          rw [h1] at this
          exact this
        · rw [← hdr.out, seqW_step (by rw [h1]), h1]
      have hnext := Lib.hid hnext
      rw [show ((1 + k : Nat) : Int) = 1 + (k : Int) by omega] at hRd
      clear hO hdr hC hS hFF hnk hgd hkl
      go_wp2_with fail
      refine hRd.out.mono ?_
      rintro e w2 (⟨ha, r, rfl, hor, hB2, hr2⟩ | ⟨ha, rfl, rfl⟩)
      · rw [show (1 + (k : Int)).toNat = 1 + k by omega] at hor
        rw [show 1 + (k : Int) = ((1 + k : Nat) : Int) by omega] at ha
        have hE4 := hE3.out.below hB2
        have c3 := hE4.bl.cell 0
        have c4 := hE4.cell
        have hst2 : Hid (copyW ((1 + k : Nat) : Int) ((65 + nk : Nat) : Int) dk = writeP dk ((65 + nk : Nat) : Int) (lastP dk (1 + k))) := by
          show _ = _
          rw [hst.out, if_neg (fun h => h ha)]
        have hD2 := hD.out.below hB2
        have hl5 : (lastP dk (1 + k)).length = 512 := lastP_len hD2.dk (by obtain ⟨a0, a1, a2, _⟩ := askP_ok ha; omega)
        have hWr := Lib.hid (Write_callsO w2 g dk Sk hD2 ((65 + nk : Nat) : Int) r (lastP dk (1 + k)) (Rd.of_own hor) (hD2.own8W hor) (by rw [hl5]; omega) (by rw [hF.out.dl]; exact hNh.out) (by have := hF.out.wt; omega) hF.out.ar hF.out.pk)
        rw [show ((65 + nk : Nat) : Int) = 65 + (nk : Int) by omega] at hWr
        have hB2 := Lib.hid hB2
        clear hor hr2 hRd hst ha c1 c2 cn hE3 hE4 hD2 hl5
        go_wp2_with fail
        refine hWr.out.mono ?_
        rintro e w3 ⟨rfl, hw⟩
        rw [show 65 + (nk : Int) = ((65 + nk : Nat) : Int) by omega] at hw ⊢
        have hw := Lib.hid (WroteO.from hB2.out hw)
        obtain ⟨er, her⟩ : ∃ r, Hid ((writeP dk ((65 + nk : Nat) : Int) (lastP dk (1 + k))).1 = r) := ⟨_, Lib.hid rfl⟩
        obtain ⟨dn, hdn⟩ : ∃ r, Hid ((writeP dk ((65 + nk : Nat) : Int) (lastP dk (1 + k))).2 = r) := ⟨_, Lib.hid rfl⟩
        have hst4 : Hid (copyW ((1 + k : Nat) : Int) ((65 + nk : Nat) : Int) dk = (er, dn)) := by show _ = _; rw [hst2.out, ← her.out, ← hdn.out]
        rw [her.out]
        rw [hdn.out] at hw
        clear hst2 her hdn hWr c3 c4
        by_cases h0 : er = 0
        · subst h0
          obtain ⟨Sn, Fn, d1, d2, d3, d4, d5, d6⟩ := (hnext.out dn w3 hst4.out hw.out).out
          have d1 := Lib.hid d1
          have d2 := Lib.hid d2
          have d3 := Lib.hid d3
          have d4 := Lib.hid d4
          have d5 := Lib.hid d5
          have d6 := Lib.hid d6
          clear hnext hfin hst4 hw
          go_wp2
          go_roundw
          case rel => exact ⟨k + 1, dn, Sn, Fn, by omega, by go_num, d1, d2, d3, d4, d5, d6⟩
          case measure => simp [RowKit.intOf]; omega
        · have hf := hfin.out er dn w3 hst4.out h0 hw.out
          clear hnext hfin hst4 hw
          go_wp2
          go_ret
          exact ⟨by rw [hf.out.1]; rfl, hf.out.2⟩
      · rw [show 1 + (k : Int) = ((1 + k : Nat) : Int) by omega] at ha ⊢
        have hst2 : Hid (copyW ((1 + k : Nat) : Int) ((65 + nk : Nat) : Int) dk = (askP dk ((1 + k : Nat) : Int), dk)) := by
          show _ = _
          rw [hst.out, if_pos ha]
        have hf := hfin.out _ dk wr hst2.out ha (WroteO.refl hD.out)
        generalize askP dk ((1 + k : Nat) : Int) = er at *
        clear hnext hfin hst hst2 hRd
        go_wp2
        go_ret
        exact ⟨by rw [hf.out.1]; rfl, hf.out.2⟩
    · obtain rfl : k = L := by omega
      have hfin : Hid (out.1 = 0 ∧ WroteO W S F g out.2 wr) := by
        have h1 := hO.out
        rw [List.drop_eq_nil_of_le (by simp [hL.out])] at h1
        rw [← h1]
        exact ⟨rfl, _, _, hD.out, hC.out, hS.out, hFF.out⟩
      clear hO hD
      go_wp2
      go_ret
      exact ⟨by rw [hfin.out.1]; rfl, hfin.out.2⟩
set_option maxRecDepth 10000 in
set_option maxHeartbeats 8000000 in
theorem settle_calls (w : World) {g gl N M : Nat} {d : Dk} {S F : Nat → Prop} (hd : DO w g d S F) (hf : Fit N M d) (hM : M ≤ 890000000) (hN : N ≤ 16384) {cs : Array Value} (hl : Blk w gl 74 cs) (hl0 : cs[0]? = some (.pointer (some ⟨g, 0, none⟩))) (hgl : ¬ S gl)
    (x : Value) (ns : List Nat) (hx : Rd w x (nvs ns)) (hxS : ∀ k, x.ownBlock = some k → ¬ S k) (hxl : ∀ k, x.ownBlock = some k → k < w.heap.size) (hns : ns.length ≤ 63) (hnm : ∀ n ∈ ns, n ≤ 1000000) :
    Calls Try.prog 65 #[.pointer (some ⟨gl, 0, none⟩), x] w fun e w' => e = .returned (.int .i64 (settleW ns d).1) ∧ WroteO w S F g (settleW ns d).2 w' := by
  obtain ⟨xA, xc, rfl⟩ := hx.shapeN
  obtain ⟨q, hq⟩ : ∃ q, Hid (ns.length = q) := ⟨_, Lib.hid rfl⟩
  have hql : q ≤ 63 := by rw [← hq.out]; exact hns
  rw [hq.out] at hx hxS hxl ⊢
  obtain ⟨bl, hbl⟩ : ∃ b, b = w.heap.size := ⟨_, rfl⟩
  obtain ⟨bn, hbn⟩ : ∃ b, b = w.heap.size + 1 := ⟨_, rfl⟩
  obtain ⟨wb, hwb⟩ : ∃ wb, wb = (w.alloc (.cells #[.pointer (some ⟨gl, 0, none⟩)] 24)).alloc (.cells #[.slice xA q xc] 22) := ⟨_, rfl⟩
  have h1 : (w.alloc (.cells #[.pointer (some ⟨gl, 0, none⟩)] 24)).heap.size = w.heap.size + 1 := World.size_alloc _ _
  have hbB : Below w.heap.size w wb := by rw [hwb]; exact ((Below.refl _ _).alloc (Nat.le_refl _) _).alloc (by omega) _
  have hbs : wb.heap.size = w.heap.size + 2 := by rw [hwb, World.size_alloc, h1]
  have hE : SEnv wb g gl bn bl (.slice xA q xc) ns := by
    refine ⟨?_, ?_, ⟨cs, hl.chg (Chg.of_below hbB) (S := fun _ => False) id, hl0⟩, hx.below hbB⟩
    · rw [hwb, hbn]
      have := Blk.new (w.alloc (.cells #[.pointer (some ⟨gl, 0, none⟩)] 24)) 22 #[.slice xA q xc]
      rw [h1] at this
      exact this
    · rw [hwb, hbl]
      exact (Blk.new _ _ _).alloc _
  have hK : SKeep gl bn bl (.slice xA q xc) S := ⟨fun h => by have := hd.lt h; omega, fun h => by have := hd.lt h; omega, hgl, hxS⟩
  obtain ⟨out, ho⟩ : ∃ out, Hid (settleW ns d = out) := ⟨_, Lib.hid rfl⟩
  rw [ho.out]
  have hdh := Lib.hid hd
  have hfh := Lib.hid hf
  have hMh := Lib.hid hM
  have hE := Lib.hid hE
  have hK := Lib.hid hK
  have hxlh := Lib.hid hxl
  have hbB := Lib.hid hbB
  have hbs := Lib.hid hbs
  have hNh := Lib.hid hN
  have hnmh := Lib.hid hnm
  have hnsh := Lib.hid hns
  obtain ⟨L, hL⟩ : ∃ L, Hid (w.heap.size + 1 + 1 = L) := ⟨_, Lib.hid rfl⟩
  clear hd hf hl hl0 hgl hx hxS hxl hnm hns h1
  go_enter Try.func65, Try.ntmps65
  go_wp2_with fail
  rw [← hwb, ← hbn, ← hbl]
  replace hbl : Hid (bl = w.heap.size) := hbl
  replace hbn : Hid (bn = w.heap.size + 1) := hbn
  clear hwb
  refine wp_mixs (fun W => SEnv W g gl bn bl (.slice xA q xc) ns) [17, 18] (by kernel_rfl) (by kernel_rfl) (by kernel_rfl) (by decide) (show SEnv wb.drew g gl bn bl (.slice xA q xc) ns from hE.out.below ((Below.refl _ _).drew)) ?_
  iterate 17 ((first | refine mixsq rfl rfl 0 (by decide +kernel) ?_ (fun w' hw' => Or.inl ?_) (fun K hK => ?_) | refine mixsq rfl rfl 1 (by decide +kernel) ?_ (fun w' hw' => Or.inl ?_) (fun K hK => ?_) | refine mixsq rfl rfl 2 (by decide +kernel) ?_ (fun w' hw' => Or.inl ?_) (fun K hK => ?_) | refine mixsq rfl rfl 3 (by decide +kernel) ?_ (fun w' hw' => Or.inl ?_) (fun K hK => ?_) | refine mixsq rfl rfl 4 (by decide +kernel) ?_ (fun w' hw' => Or.inl ?_) (fun K hK => ?_) | refine mixsq rfl rfl 5 (by decide +kernel) ?_ (fun w' hw' => Or.inl ?_) (fun K hK => ?_) | refine mixsq rfl rfl 6 (by decide +kernel) ?_ (fun w' hw' => Or.inl ?_) (fun K hK => ?_) | refine mixsq rfl rfl 7 (by decide +kernel) ?_ (fun w' hw' => Or.inl ?_) (fun K hK => ?_)); rotate_left; (focus (have hc : SEnv w' g gl bn bl (.slice xA q xc) ns := hw'; have c1 := hc.bl.cell 0; have c2 := hc.cell; have c3 := hc.bn.cell 0; go_simp; rfl)); go_simp; refine hK _ ?_; clear hK K)
  refine mixsl rfl rfl (fun K hK2 => ?_)
  go_simp
  obtain ⟨w4, hw4⟩ : ∃ w4, w4 = (wb.alloc (.cells #[.func (.func 56) #[.pointer (some ⟨g, 0, none⟩)] #[], .func (.func 82) #[] #[.pointer (some ⟨bn, 0, none⟩), .pointer (some ⟨bl, 0, none⟩)], .func (.func 56) #[.pointer (some ⟨g, 0, none⟩)] #[], .func (.func 83) #[] #[.pointer (some ⟨bl, 0, none⟩)], .func (.func 56) #[.pointer (some ⟨g, 0, none⟩)] #[]] 46)).drew := ⟨_, rfl⟩
  rw [← hw4]
  have hBw : Below wb.heap.size wb w4 := by rw [hw4]; exact ((Below.refl _ _).alloc (Nat.le_refl _) _).drew
  have hB4 : Below w.heap.size w w4 := hbB.out.trans (hBw.mono (by have := hbs.out; omega))
  have e4 : SEnv w4 g gl bn bl (.slice xA q xc) ns := hE.out.below hBw
  have hx4 : Rd w4 (.slice (some ⟨w.heap.size + 2, 0, none⟩) 5 5) [.func (.func 56) #[.pointer (some ⟨g, 0, none⟩)] #[], .func (.func 82) #[] #[.pointer (some ⟨bn, 0, none⟩), .pointer (some ⟨bl, 0, none⟩)], .func (.func 56) #[.pointer (some ⟨g, 0, none⟩)] #[], .func (.func 83) #[] #[.pointer (some ⟨bl, 0, none⟩)], .func (.func 56) #[.pointer (some ⟨g, 0, none⟩)] #[]] := by
    have := rd_new wb [.func (.func 56) #[.pointer (some ⟨g, 0, none⟩)] #[], .func (.func 82) #[] #[.pointer (some ⟨bn, 0, none⟩), .pointer (some ⟨bl, 0, none⟩)], .func (.func 56) #[.pointer (some ⟨g, 0, none⟩)] #[], .func (.func 83) #[] #[.pointer (some ⟨bl, 0, none⟩)], .func (.func 56) #[.pointer (some ⟨g, 0, none⟩)] #[]] 46 5 rfl
    rw [hbs.out] at this
    rw [hw4]
    exact this.drew
  clear hw4
  refine hK2 (fun W => SEnv W g gl bn bl (.slice xA q xc) ns) _ _ (fun _ => ⟨e4, fun _ => e4⟩) ?_
  clear hK2 K
  refine mixsl rfl rfl (fun K hK2 => ?_)
  go_simp
  have hxl4 : ∀ k, (Value.slice xA q xc).ownBlock = some k → k < w4.heap.size := fun k hk => Nat.lt_of_lt_of_le (hxlh.out k hk) hB4.size
  refine (all_calls w4 _ _ hx4 (hdh.out.below hB4) (fun k hk hs => by
    have hk : w.heap.size + 2 = k := by simpa [Value.ownBlock] using hk
    have := hdh.out.lt hs
    omega) [syncW, homeW ns, syncW, wrW 0 (headP []), syncW] rfl (g := g) (N := N) (fun i h h' => by
      rcases i with _ | _ | _ | _ | _ | i
      · exact sync_step w4 S g N hNh.out (B := 900000000) (Nat.le_refl _)
      · exact s1_step w4 S g gl N bn bl _ ns hNh.out (B := 900000000) (Nat.le_refl _) e4 hK.out hxl4 hnsh.out hnmh.out
      · exact sync_step w4 S g N hNh.out (B := 900000000) (Nat.le_refl _)
      · exact s2_step w4 S g gl N bn bl _ ns hNh.out (B := 900000000) (Nat.le_refl _) e4 hK.out hxl4
      · exact sync_step w4 S g N hNh.out (B := 900000000) (Nat.le_refl _)
      · exfalso; simp only [List.length_cons, List.length_nil] at h; omega) (cc := ns.length + 1) (fun f hf => by
      simp only [List.mem_cons, List.not_mem_nil, or_false] at hf
      rcases hf with rfl | rfl | rfl | rfl | rfl
      · exact (Gr.sync N).mono (by omega)
      · exact (Gr.homeW N ns).mono (by omega)
      · exact (Gr.sync N).mono (by omega)
      · exact (Gr.write N _ _).mono (by omega)
      · exact (Gr.sync N).mono (by omega)) hfh.out (by have := hnsh.out; have := hMh.out; simp only [List.length_cons, List.length_nil]; omega) (by simp)).mono ?_
  rintro e w5 ⟨rfl, hw⟩
  rw [show seqW [syncW, homeW ns, syncW, wrW 0 (headP []), syncW] d = out from ho.out] at hw ⊢
  have e5 : SEnv w5 g gl bn bl (.slice xA q xc) ns := by
    obtain ⟨_, _, _, hc, _⟩ := hw
    exact e4.chg hc hK.out
  refine hK2 (fun W => SEnv W g gl bn bl (.slice xA q xc) ns) _ _ (fun _ => ⟨e5, ext_all (fun _ => e5) e5⟩) ?_
  clear hK2 K
  (first | refine mixsq rfl rfl 0 (by decide +kernel) ?_ (fun w' hw' => Or.inl ?_) (fun K hK => ?_) | refine mixsq rfl rfl 1 (by decide +kernel) ?_ (fun w' hw' => Or.inl ?_) (fun K hK => ?_) | refine mixsq rfl rfl 2 (by decide +kernel) ?_ (fun w' hw' => Or.inl ?_) (fun K hK => ?_) | refine mixsq rfl rfl 3 (by decide +kernel) ?_ (fun w' hw' => Or.inl ?_) (fun K hK => ?_) | refine mixsq rfl rfl 4 (by decide +kernel) ?_ (fun w' hw' => Or.inl ?_) (fun K hK => ?_) | refine mixsq rfl rfl 5 (by decide +kernel) ?_ (fun w' hw' => Or.inl ?_) (fun K hK => ?_) | refine mixsq rfl rfl 6 (by decide +kernel) ?_ (fun w' hw' => Or.inl ?_) (fun K hK => ?_) | refine mixsq rfl rfl 7 (by decide +kernel) ?_ (fun w' hw' => Or.inl ?_) (fun K hK => ?_)); rotate_left; (focus (go_simp; rfl)); go_simp; refine hK _ ?_; clear hK K
  refine mixs_nil ?_
  have hfin := Lib.hid (WroteO.from hB4 hw)
  clear hw e4 e5 hx4 hBw hB4 hxl4
  go_wp2
  go_ret
  exact ⟨rfl, hfin.out⟩
end Go.Proofs.Ytefbmbfhhhjgkaa
