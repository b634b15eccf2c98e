/- The log: Format's steps; Format. Printed by genwf.py. -/
import Derived.Test.YtefbmbfhhhjgkaaWe
namespace Go.Proofs.Ytefbmbfhhhjgkaa
open Go.RowKit
set_option maxRecDepth 10000 in
theorem bytesEq_calls (w : World) (x y : Value) (ys bs : List UInt8) (hx : Rd w x (bvs ys)) (hy : Rd w y (bvs bs)) : Calls Try.prog 52 #[x, y] w (Ans w (.bool (decide (ys = bs)))) := by
  have s1 := run_str (P := Try.prog) w 63 9 5 _ _ Try.underlying63 Try.underlying5 Try.underlying9 hx
  have s2 := run_str (P := Try.prog) w 63 9 5 _ _ Try.underlying63 Try.underlying5 Try.underlying9 hy
  unfold str at s1 s2
  clear hx hy
  by_cases h : ys = bs
  · subst h
    rw [decide_eq_true rfl]
    generalize (⟨ys.toArray⟩ : ByteArray) = q at *
    go_enter Try.func52, Try.ntmps52
    go_wp2
    go_ret
    exact ⟨by simp, rfl⟩
  · rw [decide_eq_false h]
    have hne : ((⟨ys.toArray⟩ : ByteArray).toList == (⟨bs.toArray⟩ : ByteArray).toList) = false := by
      rw [ByteArray.toList_mk, ByteArray.toList_mk]
      exact beq_eq_false_iff_ne.2 h
    generalize (⟨ys.toArray⟩ : ByteArray) = q at *
    generalize (⟨bs.toArray⟩ : ByteArray) = r at *
    go_enter Try.func52, Try.ntmps52
    go_wp2
    go_ret
    exact ⟨by simp [hne], rfl⟩
theorem sync_step (w0 : World) (S0 : Nat → Prop) (g N : Nat) (hN : N ≤ 16384) {B : Nat} (hBB : B ≤ 900000000) : StepOK w0 S0 g N B (.func (.func 56) #[.pointer (some ⟨g, 0, none⟩)] #[]) syncW := by
  refine ⟨_, _, _, rfl, fun W => enters_of Try.func56 (by kernel_rfl) rfl _ W, fun W d S F hC hD hS hF => ?_⟩
  show Calls Try.prog 56 #[.pointer (some ⟨g, 0, none⟩)] W _
  unfold syncW
  by_cases ho : d.off = true
  · rw [if_pos ho]
    refine (SyncOff_callsO W g d S hD ho).mono ?_
    rintro e w1 ⟨rfl, rfl⟩
    exact ⟨rfl, WroteO.refl hD⟩
  · rw [if_neg ho]
    exact Sync_callsO W g d S hD (by simpa using ho) (by rw [hF.dl]; exact hN) (by have := hF.wt; omega)
theorem DO.own8W {w : World} {g : Nat} {d : Dk} {S F : Nat → Prop} (h : DO w g d S F) {r : Value} {bs : List UInt8} (ho : Own8 w r bs) : ∀ k, r.ownBlock = some k → ¬ S k := fun k hk => by
  obtain ⟨cs, hb⟩ := own_kindI ho hk
  exact h.not8 k cs hb
/-- What Format's steps have captured: the disk, a block of bytes 0. -/
structure FEnv (w : World) (g bd be z : Nat) : Prop where
  bd : Blk w bd 55 #[.pointer (some ⟨g, 0, none⟩)]
  be : Blk w be 63 #[.slice (some ⟨z, 0, none⟩) 512 512]
  z : Rd w (.slice (some ⟨z, 0, none⟩) 512 512) (bvs zblk)
theorem FEnv.chg {w w' : World} {g bd be z : Nat} {S : Nat → Prop} (h : FEnv w g bd be z) (hc : Chg S w w') (h1 : ¬ S bd) (h2 : ¬ S be) (h3 : ¬ S z) : FEnv w' g bd be z :=
  ⟨h.bd.chg hc h1, h.be.chg hc h2, h.z.chg hc (fun k hk => by injection hk with hk; subst hk; exact h3)⟩
theorem FEnv.zlt {w : World} {g bd be z : Nat} (h : FEnv w g bd be z) : z < w.heap.size := h.z.inW (by intro e; have := congrArg List.length e; rw [bvs_length, zblk_len] at this; cases this) z rfl
set_option maxRecDepth 10000 in
set_option maxHeartbeats 4000000 in
theorem f2_step (w0 : World) (S0 : Nat → Prop) (g N bd be z : Nat) (hN : N ≤ 16384) {B : Nat} (hBB : B ≤ 900000000) (hE : FEnv w0 g bd be z) (h1 : ¬ S0 bd) (h2 : ¬ S0 be) (h3 : ¬ S0 z) : StepOK w0 S0 g N B (.func (.func 55) #[] #[.pointer (some ⟨bd, 0, none⟩), .pointer (some ⟨be, 0, none⟩)]) (wrW 0 zblk) := by
  refine ⟨_, _, _, rfl, fun W => enters_of Try.func55 (by kernel_rfl) rfl _ W, fun W d S F hC hD hS hF => ?_⟩
  show Calls Try.prog 55 #[.pointer (some ⟨bd, 0, none⟩), .pointer (some ⟨be, 0, none⟩)] W _
  have hE2 := hE.chg hC h1 h2 h3
  have hz := hE.zlt
  have cb : W.cell? ⟨bd, 0, none⟩ = some (.pointer (some ⟨g, 0, none⟩)) := hE2.bd.cell 0
  have ce : W.cell? ⟨be, 0, none⟩ = some (.slice (some ⟨z, 0, none⟩) 512 512) := hE2.be.cell 0
  have hW := Lib.hid (Write_callsO W g d S hD 0 (.slice (some ⟨z, 0, none⟩) 512 512) zblk hE2.z (fun k hk => by
    have hk : z = k := by simpa [Value.ownBlock] using hk
    subst hk
    exact fun hs => (hS _ hs).elim h3 (by omega)) (by rw [zblk_len]; omega) (by rw [hF.dl]; exact hN) (by have := hF.wt; omega) hF.ar hF.pk)
  clear hE2 hE hz hC hD hS hF
  go_enter Try.func55, Try.ntmps55
  go_wp2_with fail
  refine hW.out.mono ?_
  rintro e w1 ⟨rfl, hw⟩
  have hw := Lib.hid hw
  go_wp2
  go_ret
  exact ⟨rfl, hw.out⟩
set_option maxRecDepth 10000 in
set_option maxHeartbeats 4000000 in
theorem f3_step (w0 : World) (S0 : Nat → Prop) (g N bd : Nat) (hN : N ≤ 16384) {B : Nat} (hBB : B ≤ 900000000) (hE : Blk w0 bd 55 #[.pointer (some ⟨g, 0, none⟩)]) (h1 : ¬ S0 bd) : StepOK w0 S0 g N B (.func (.func 57) #[] #[.pointer (some ⟨bd, 0, none⟩)]) (wrW 0 (headP [])) := by
  refine ⟨_, _, _, rfl, fun W => enters_of Try.func57 (by kernel_rfl) rfl _ W, fun W d S F hC hD hS hF => ?_⟩
  show Calls Try.prog 57 #[.pointer (some ⟨bd, 0, none⟩)] W _
  have hE2 := Lib.hid (hE.chg hC h1)
  have hD := Lib.hid hD
  have hF := Lib.hid hF
  have hSb : Hid (¬ S bd) := fun hs => (hS _ hs).elim h1 (by have := hE.lt; omega)
  clear hE hC hS
  go_enter Try.func57, Try.ntmps57
  go_wp2_with fail
  refine wp_mixs (fun W => Blk W bd 55 #[.pointer (some ⟨g, 0, none⟩)]) [1, 2] (by kernel_rfl) (by kernel_rfl) (by kernel_rfl) (by decide) (show Blk W.drew _ _ _ from hE2.out) ?_
  (first | refine mixsq rfl rfl 0 (by decide +kernel) ?_ (fun w' hw' => Or.inl ?_) (fun K hK => ?_) | refine mixsq rfl rfl 1 (by decide +kernel) ?_ (fun w' hw' => Or.inl ?_) (fun K hK => ?_) | refine mixsq rfl rfl 2 (by decide +kernel) ?_ (fun w' hw' => Or.inl ?_) (fun K hK => ?_) | refine mixsq rfl rfl 3 (by decide +kernel) ?_ (fun w' hw' => Or.inl ?_) (fun K hK => ?_) | refine mixsq rfl rfl 4 (by decide +kernel) ?_ (fun w' hw' => Or.inl ?_) (fun K hK => ?_) | refine mixsq rfl rfl 5 (by decide +kernel) ?_ (fun w' hw' => Or.inl ?_) (fun K hK => ?_) | refine mixsq rfl rfl 6 (by decide +kernel) ?_ (fun w' hw' => Or.inl ?_) (fun K hK => ?_) | refine mixsq rfl rfl 7 (by decide +kernel) ?_ (fun w' hw' => Or.inl ?_) (fun K hK => ?_)); rotate_left; (focus (have hc : Blk w' bd 55 #[.pointer (some ⟨g, 0, none⟩)] := hw'; have c1 := hc.cell 0; go_simp; rfl)); go_simp; refine hK _ ?_; clear hK K
  refine mixsl rfl rfl (fun K hK => ?_)
  go_simp
  refine (head_calls W.drew (.slice none 0 0) [] (Rd.nil _ _ _) (by decide)).mono ?_
  rintro e wa ⟨hb, hc, rfl, ho, hBa, _⟩
  have hBa : Below W.heap.size W wa := ⟨hBa.os, hBa.tape, hBa.output, hBa.size, hBa.block⟩
  have ba : Blk wa bd 55 #[.pointer (some ⟨g, 0, none⟩)] := hE2.out.chg (Chg.of_below hBa) (S := fun _ => False) id
  refine hK (fun W => Blk W bd 55 #[.pointer (some ⟨g, 0, none⟩)]) _ _ (fun _ => ⟨ba, fun _ => ba⟩) ?_
  clear hK K
  refine mixsl rfl rfl (fun K hK => ?_)
  go_simp
  have hda := hD.out.below hBa
  refine (Write_callsO wa g d S hda 0 (.slice (some ⟨hb, 0, none⟩) 512 hc) (headP []) (by have := Rd.of_own ho; exact this) (hda.own8W ho) (by rw [headP_len (by decide)]; omega) (by rw [hF.out.dl]; exact hN) (by have := hF.out.wt; omega) hF.out.ar hF.out.pk).mono ?_
  rintro e wb ⟨rfl, hw⟩
  have bb : Blk wb bd 55 #[.pointer (some ⟨g, 0, none⟩)] := by
    obtain ⟨S', _, _, hc, _⟩ := hw
    exact ba.chg hc hSb.out
  refine hK (fun W => Blk W bd 55 #[.pointer (some ⟨g, 0, none⟩)]) _ _ (fun _ => ⟨bb, ext_all (fun _ => bb) bb⟩) ?_
  clear hK K
  (first | refine mixsq rfl rfl 0 (by decide +kernel) ?_ (fun w' hw' => Or.inl ?_) (fun K hK => ?_) | refine mixsq rfl rfl 1 (by decide +kernel) ?_ (fun w' hw' => Or.inl ?_) (fun K hK => ?_) | refine mixsq rfl rfl 2 (by decide +kernel) ?_ (fun w' hw' => Or.inl ?_) (fun K hK => ?_) | refine mixsq rfl rfl 3 (by decide +kernel) ?_ (fun w' hw' => Or.inl ?_) (fun K hK => ?_) | refine mixsq rfl rfl 4 (by decide +kernel) ?_ (fun w' hw' => Or.inl ?_) (fun K hK => ?_) | refine mixsq rfl rfl 5 (by decide +kernel) ?_ (fun w' hw' => Or.inl ?_) (fun K hK => ?_) | refine mixsq rfl rfl 6 (by decide +kernel) ?_ (fun w' hw' => Or.inl ?_) (fun K hK => ?_) | refine mixsq rfl rfl 7 (by decide +kernel) ?_ (fun w' hw' => Or.inl ?_) (fun K hK => ?_)); rotate_left; (focus (go_simp; rfl)); go_simp; refine hK _ ?_; clear hK K
  refine mixs_nil ?_
  have hfin := Lib.hid (WroteO.from hBa hw)
  clear hw hda ho hBa ba bb
  go_wp2
  go_ret
  exact ⟨rfl, hfin.out⟩
set_option maxRecDepth 10000 in
set_option maxHeartbeats 8000000 in
theorem f1_step (w0 : World) (S0 : Nat → Prop) (g N bd be z : Nat) (hN : N ≤ 16384) {B : Nat} (hBB : B ≤ 900000000) (hE : FEnv w0 g bd be z) (h1 : ¬ S0 bd) (h2 : ¬ S0 be) (h3 : ¬ S0 z) : StepOK w0 S0 g N B (.func (.func 50) #[] #[.pointer (some ⟨bd, 0, none⟩), .pointer (some ⟨be, 0, none⟩)]) (cleanW N) := by
  refine ⟨_, _, _, rfl, fun W => enters_of Try.func50 (by kernel_rfl) rfl _ W, fun W d S F hC hD hS hF => ?_⟩
  show Calls Try.prog 50 #[.pointer (some ⟨bd, 0, none⟩), .pointer (some ⟨be, 0, none⟩)] W _
  have hE2 := Lib.hid (hE.chg hC h1 h2 h3)
  have hz := hE.zlt
  have hSn : Hid (¬ S bd ∧ ¬ S be ∧ ¬ S z) := ⟨fun hs => (hS _ hs).elim h1 (by have := hE.bd.lt; omega), fun hs => (hS _ hs).elim h2 (by have := hE.be.lt; omega), fun hs => (hS _ hs).elim h3 (by omega)⟩
  have hlt : Hid (z < W.heap.size) := Nat.lt_of_lt_of_le hz hC.size
  have cb : W.cell? ⟨bd, 0, none⟩ = some (.pointer (some ⟨g, 0, none⟩)) := hE2.out.bd.cell 0
  have hB := Blocks_callsO W g d S hD
  rw [hF.dl] at hB
  obtain ⟨out, ho⟩ : ∃ out, Hid (cleanW N d = out) := ⟨_, Lib.hid rfl⟩
  rw [ho.out]
  have h0 : Hid (DO W g d S F ∧ Fit N B d) := ⟨hD, hF⟩
  have hNh := Lib.hid hN
  have hBBh := Lib.hid hBB
  clear hE hC hS hD hF hz h1 h2 h3
  go_enter Try.func50, Try.ntmps50
  go_wp2_with fail
  refine hB.mono ?_
  rintro e w1 ⟨rfl, rfl⟩
  clear hB cb
  go_wp2
  go_loopw [8] (fun iv wr => ∃ (k : Nat) (dk : Dk) (Sk Fk : Nat → Prop), k ≤ N ∧ iv = .int .i64 (k : Int) ∧ Hid (DO wr g dk Sk Fk) ∧ Hid (Fit N (B + k) dk) ∧ Hid (Chg S W wr) ∧ Hid (∀ j, Sk j → S j ∨ W.heap.size ≤ j) ∧ Hid (∀ j, Fk j → F j ∨ W.heap.size ≤ j) ∧ Hid (seqW (((List.range N).map cleanS).drop k) dk = out)) (fun iv _ => N - (RowKit.intOf iv).toNat)
  case atStart => exact ⟨0, d, S, F, Nat.zero_le _, rfl, h0.out.1, h0.out.2, Chg.refl _ _, fun _ h => .inl h, fun _ h => .inl h, ho⟩
  case round =>
    obtain ⟨k, dk, Sk, Fk, hk, rfl, hD, hF, hC, hS, hFF, hO⟩ := hrel
    clear h0
    by_cases hkn : k < N
    · have hE3 := hE2.out.chg hC.out hSn.out.1 hSn.out.2.1 hSn.out.2.2
      have cb : wr.cell? ⟨bd, 0, none⟩ = some (.pointer (some ⟨g, 0, none⟩)) := hE3.bd.cell 0
      have hE3 := Lib.hid hE3
      have hSkn : Hid (¬ Sk bd ∧ ¬ Sk be ∧ ¬ Sk z) := ⟨fun hs => (hS.out _ hs).elim hSn.out.1 (by have := hE2.out.bd.lt; omega), fun hs => (hS.out _ hs).elim hSn.out.2.1 (by have := hE2.out.be.lt; omega), fun hs => (hS.out _ hs).elim hSn.out.2.2 (by have := hlt.out; omega)⟩
      have hdr : Hid (seqW (cleanS k :: ((List.range N).map cleanS).drop (k + 1)) dk = out) := by
        show _ = _
        rw [← hO.out]
        have e := List.drop_eq_getElem_cons (l := (List.range N).map cleanS) (i := k) (by simpa using hkn)
        rw [e]
        simp
      have hRd := Lib.hid (Read_callsO wr g dk Sk hD.out (k : Int) (by rw [hF.out.dl]; exact hNh.out) (fun vs hvs => by have := waitP_le dk hvs; have := hF.out.wt; have := hNh.out; omega))
      have hfin : ∀ (r : Int) (dn : Dk) (wq : World), cleanS k dk = (r, dn) → r ≠ 0 → WroteO wr Sk Fk g dn wq → Hid (out.1 = r ∧ WroteO W S F g out.2 wq) := fun r dn wq h1 h2 h3 => by
        have h4 : out = (r, dn) := by rw [← hdr.out, seqW_stop (by rw [h1]; exact h2), h1]
        rw [h4]
        exact ⟨rfl, WroteO.trans hC.out hS.out hFF.out h3⟩
      have hfin := Lib.hid hfin
      have hnext : ∀ (dn : Dk) (wq : World), cleanS k dk = (0, dn) → WroteO wr Sk Fk g dn wq → Hid (∃ Sn Fn, DO wq g dn Sn Fn ∧ Fit N (B + (k + 1)) dn ∧ Chg S W wq ∧ (∀ j, Sn j → S j ∨ W.heap.size ≤ j) ∧ (∀ j, Fn j → F j ∨ W.heap.size ≤ j) ∧ seqW (((List.range N).map cleanS).drop (k + 1)) dn = out) := fun dn wq h1 h2 => by
        obtain ⟨Sn, Fn, d1, d2, d3, d4⟩ := WroteO.trans hC.out hS.out hFF.out h2
        refine ⟨Sn, Fn, d1, ?_, d2, d3, d4, ?_⟩
        · have := Gr.clean N k _ _ hF.out
          rw [h1] at this
          exact this
        · rw [← hdr.out, seqW_step (by rw [h1]), h1]
      have hnext := Lib.hid hnext
      have hst : Hid (cleanS k dk = if askP dk k ≠ 0 then (askP dk k, dk) else if lastP dk k = zblk then (0, dk) else writeP dk k zblk) := rfl
      clear hO hdr hC hS hFF
      go_wp2_with fail
      refine hRd.out.mono ?_
      rintro e w2 (⟨ha, r, rfl, hor, hB2, hr2⟩ | ⟨ha, rfl, rfl⟩)
      · rw [Int.toNat_natCast] at hor
        have hE4 := hE3.out.chg (S := fun _ => False) (Chg.of_below hB2) id id id
        have ce : w2.cell? ⟨be, 0, none⟩ = some (.slice (some ⟨z, 0, none⟩) 512 512) := hE4.be.cell 0
        have cb2 : w2.cell? ⟨bd, 0, none⟩ = some (.pointer (some ⟨g, 0, none⟩)) := hE4.bd.cell 0
        have hEq := Lib.hid (bytesEq_calls w2 r (.slice (some ⟨z, 0, none⟩) 512 512) (lastP dk k) zblk (Rd.of_own hor) hE4.z)
        have hst2 : Hid (cleanS k dk = if lastP dk k = zblk then (0, dk) else writeP dk k zblk) := by
          show _ = _
          rw [hst.out, if_neg (by simp [ha])]
        have hD2 := hD.out.below hB2
        have hWr := Lib.hid (Write_callsO w2 g dk Sk hD2 (k : Int) (.slice (some ⟨z, 0, none⟩) 512 512) zblk hE4.z (fun j hj => (show z = j by simpa [Value.ownBlock] using hj) ▸ hSkn.out.2.2) (by rw [zblk_len]; omega) (by rw [hF.out.dl]; exact hNh.out) (by have := hF.out.wt; have := hNh.out; omega) hF.out.ar hF.out.pk)
        have hD2 := Lib.hid hD2
        have hB2 := Lib.hid hB2
        clear hor hr2 hRd hst ha cb hE4 hE3
        by_cases heq : lastP dk k = zblk
        · rw [decide_eq_true heq] at hEq
          have hst3 : Hid (cleanS k dk = (0, dk)) := by show _ = _; rw [hst2.out, if_pos heq]
          have hn := hnext.out dk w2 hst3.out (WroteO.from hB2.out (WroteO.refl hD2.out))
          clear hst2 hst3 heq hWr hnext hfin
          go_wp2_with fail
          refine hEq.out.mono ?_
          rintro e w3 ⟨rfl, rfl⟩
          obtain ⟨Sn, Fn, d1, d2, d3, d4, d5, d6⟩ := hn.out
          have d1 := Lib.hid d1
          have d2 := Lib.hid d2
          have d3 := Lib.hid d3
          have d4 := Lib.hid d4
          have d5 := Lib.hid d5
          have d6 := Lib.hid d6
          clear hEq hn
          go_wp2
          go_roundw
          case rel => exact ⟨k + 1, dk, Sn, Fn, by omega, by go_num, d1, d2, d3, d4, d5, d6⟩
          case measure => simp [RowKit.intOf]; omega
        · rw [decide_eq_false heq] at hEq
          have hst3 : Hid (cleanS k dk = writeP dk k zblk) := by show _ = _; rw [hst2.out, if_neg heq]
          clear hst2 heq
          go_wp2_with fail
          refine hEq.out.mono ?_
          rintro e w3 ⟨rfl, rfl⟩
          go_wp2_with fail
          refine hWr.out.mono ?_
          rintro e w3 ⟨rfl, hw⟩
          have hw := Lib.hid (WroteO.from hB2.out hw)
          obtain ⟨er, her⟩ : ∃ r, Hid ((writeP dk k zblk).1 = r) := ⟨_, Lib.hid rfl⟩
          obtain ⟨dn, hdn⟩ : ∃ r, Hid ((writeP dk k zblk).2 = r) := ⟨_, Lib.hid rfl⟩
          have hst4 : Hid (cleanS k dk = (er, dn)) := by show _ = _; rw [hst3.out, ← her.out, ← hdn.out]
          rw [her.out]
          rw [hdn.out] at hw
          clear hst3 her hdn hWr hEq ce cb2
          by_cases h0 : er = 0
          · subst h0
            obtain ⟨Sn, Fn, d1, d2, d3, d4, d5, d6⟩ := (hnext.out dn w3 hst4.out hw.out).out
            have d1 := Lib.hid d1
            have d2 := Lib.hid d2
            have d3 := Lib.hid d3
            have d4 := Lib.hid d4
            have d5 := Lib.hid d5
            have d6 := Lib.hid d6
            clear hnext hfin hst4 hw
            go_wp2
            go_roundw
            case rel => exact ⟨k + 1, dn, Sn, Fn, by omega, by go_num, d1, d2, d3, d4, d5, d6⟩
            case measure => simp [RowKit.intOf]; omega
          · have hf := hfin.out er dn w3 hst4.out h0 hw.out
            clear hnext hfin hst4 hw
            go_wp2
            go_ret
            exact ⟨by rw [hf.out.1]; rfl, hf.out.2⟩
      · have hst2 : Hid (cleanS k dk = (askP dk k, dk)) := by
          show _ = _
          rw [hst.out, if_pos ha]
        have hf := hfin.out _ dk wr hst2.out ha (WroteO.refl hD.out)
        generalize askP dk k = er at *
        clear hnext hfin hst hst2 hRd
        go_wp2
        go_ret
        exact ⟨by rw [hf.out.1]; rfl, hf.out.2⟩
    · obtain rfl : k = N := by omega
      have hfin : Hid (out.1 = 0 ∧ WroteO W S F g out.2 wr) := by
        have h1 := hO.out
        rw [List.drop_eq_nil_of_le (by simp)] at h1
        rw [← h1]
        exact ⟨rfl, _, _, hD.out, hC.out, hS.out, hFF.out⟩
      clear hO hD
      go_wp2
      go_ret
      exact ⟨by rw [hfin.out.1]; rfl, hfin.out.2⟩
end Go.Proofs.Ytefbmbfhhhjgkaa
