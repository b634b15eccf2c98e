/- One act on a disk. -/
import Derived.Test.YtjldjfipacagdaaBac
namespace Go.Proofs.Ytjldjfipacagdaa
open Go.RowKit
set_option maxRecDepth 10000 in
theorem CutOff_calls (w : World) (g : Nat) (d : Dk) (S : Nat → Prop) (hd : DK w g d S) (ho : d.off = true) (x : Value) :
    Calls Try.prog 13 #[.pointer (some ⟨g, 0, none⟩), x] w fun e w' => e = .returned (.tuple #[]) ∧ w = w' := by
  obtain ⟨gl, cl, mb, pk, lv, mf, hd, hs⟩ := hd
  have c2 : w.cell? ⟨g, 2, none⟩ = some (.bool true) := by have := hd.blk.cell 2; rw [this, ho]; rfl
  clear hd ho
  go_enter Try.func13, Try.ntmps13
  go_wp2
  exact bodyPost_ret (results_none rfl _ _ _) rfl ⟨rfl, rfl⟩
def doP (d : Dk) (a : ActV) : Int × Dk :=
  if a.op = 1 then writeP d a.n (fullP a.b) else if a.op = 3 then (if d.off = true then (6, d) else (0, syncD d)) else if a.op = 4 then (0, armD d a.n a.p)
  else if a.op = 5 then (0, if d.off = true then d else cutD d a.p) else if a.op = 6 then (0, onD d) else (0, d)
/-- What the calls on a disk ask of it. -/
structure Dok (N B : Nat) (d : Dk) : Prop where
  ll : d.l.length = N
  wl : d.wt.length = N
  wt : waitP d ≤ B
  ar : d.arm ≤ 9223372036854775807
  pk : d.picks.length ≤ 100
theorem Dok.mono {N B B' : Nat} {d : Dk} (h : Dok N B d) (hb : B ≤ B') : Dok N B' d := ⟨h.ll, h.wl, Nat.le_trans h.wt hb, h.ar, h.pk⟩
theorem waitP_zero {N : Nat} {l : List (List UInt8)} {off : Bool} {wr arm : Int} {picks : List Int} : waitP ⟨l, List.replicate N [], off, wr, arm, picks⟩ = 0 := by
  unfold waitP
  simp [List.map_replicate]
theorem Dok.cut {N B : Nat} {d : Dk} (h : Dok N B d) (p : List Int) : Dok N B (cutD d p) :=
  ⟨by show (List.map _ _).length = N; rw [List.length_map, List.length_range]; exact h.ll, by show (List.replicate _ _).length = N; rw [List.length_replicate]; exact h.ll, by rw [waitP_cut]; exact Nat.zero_le _, h.ar, h.pk⟩
theorem Dok.sync {N B : Nat} {d : Dk} (h : Dok N B d) : Dok N B (syncD d) :=
  ⟨by show (List.map _ _).length = N; rw [List.length_map, List.length_range]; exact h.ll, by show (List.replicate _ _).length = N; rw [List.length_replicate]; exact h.ll, by unfold syncD; rw [waitP_zero]; exact Nat.zero_le _, h.ar, h.pk⟩
theorem Dok.write {N B : Nat} {d : Dk} (h : Dok N B d) (n : Int) (b : List UInt8) : Dok N (B + 1) (writeP d n b).2 := by
  unfold writeP
  split
  · exact h.mono (Nat.le_succ _)
  · rename_i h0
    split
    · exact h.mono (Nat.le_succ _)
    · split
      · exact (Dok.cut (d := armed d 0) ⟨h.ll, h.wl, h.wt, by show (0 : Int) ≤ _; omega, h.pk⟩ _).mono (Nat.le_succ _)
      · have h1 : askP d n = 0 := Decidable.not_not.1 h0
        obtain ⟨k, rfl, hk, _⟩ := askP_ok h1
        rw [Int.toNat_natCast]
        refine ⟨h.ll, by show (List.set _ _ _).length = N; rw [List.length_set]; exact h.wl, ?_, ?_, h.pk⟩
        · have := waitP_add (armed d (if 0 < d.arm then d.arm - 1 else d.arm)) (k := k) (show k < d.wt.length by rw [h.wl, ← h.ll]; exact hk) b
          have h2 := h.wt
          have h3 : waitP (armed d (if 0 < d.arm then d.arm - 1 else d.arm)) = waitP d := rfl
          show waitP (addD (armed d (if 0 < d.arm then d.arm - 1 else d.arm)) k b) ≤ B + 1
          rw [this, h3]
          omega
        · show (if 0 < d.arm then d.arm - 1 else d.arm) ≤ _
          have := h.ar
          split <;> omega
theorem Dok.step {N B : Nat} {d : Dk} (h : Dok N B d) (a : ActV) (hn : (Lit.int .i64 a.n).wf = true) (hp : a.p.length ≤ 100) : Dok N (B + 1) (doP d a).2 := by
  obtain ⟨n1, n2⟩ := wf64 hn
  unfold doP
  split
  · exact h.write _ _
  · split
    · split
      · exact h.mono (Nat.le_succ _)
      · exact h.sync.mono (Nat.le_succ _)
    · split
      · exact ⟨h.ll, h.wl, Nat.le_succ_of_le h.wt, by show imax a.n 0 ≤ _; unfold imax; omega, hp⟩
      · split
        · split
          · exact h.mono (Nat.le_succ _)
          · exact (h.cut _).mono (Nat.le_succ _)
        · split
          · exact ⟨h.ll, h.wl, Nat.le_succ_of_le h.wt, by show (0 : Int) ≤ _; omega, Nat.zero_le _⟩
          · exact h.mono (Nat.le_succ _)
theorem DO.own8 {w : World} {g : Nat} {d : Dk} {S F : Nat → Prop} (h : DO w g d S F) {x : Value} {bs : List UInt8} (hx : Own8 w x bs) : ∀ k, x.ownBlock = some k → ¬ S k := fun k hk => by
  rcases hx.2 with ⟨rfl, _⟩ | ⟨g', cap, cur, rfl, _, hg, _⟩
  · simp [Value.ownBlock] at hk
  · have e : g' = k := by simpa [Value.ownBlock] using hk
    subst e
    exact h.not8 _ _ hg
set_option maxRecDepth 10000 in
set_option maxHeartbeats 4000000 in
theorem do_calls (w : World) (g : Nat) (d : Dk) (S : Nat → Prop) {F : Nat → Prop} (hd : DO w g d S F) (a : ActV) (ha : a.ok w) (hpv : a.p ≠ [] → ∀ j, a.pv.ownBlock = some j → ¬ S j) (hb : a.b.length ≤ 512) (hp : a.p.length ≤ 100) {N B : Nat} (hok : Dok N B d) (hN : N ≤ 16384) (hB : B ≤ 1000000) :
    Calls Try.prog 22 #[.pointer (some ⟨g, 0, none⟩), .agg #[.int .i64 a.op, .int .i64 a.n, a.bv, a.pv]] w fun e w' => e = .returned (.int .i64 (doP d a).1) ∧ WroteO w S F g (doP d a).2 w' := by
  obtain ⟨aop, an, abv, ab, apv, ap⟩ := a
  obtain ⟨hab, hap, _, _, _, _⟩ := ha
  simp only at hab hap hpv hb hp ⊢
  obtain ⟨bA, bc, rfl⟩ := hab.shape8
  obtain ⟨pA, pc, rfl⟩ := hap.shapeI
  have hpl : (ivs ap).length = ap.length := by simp [ivs]
  rw [hpl] at hap hpv ⊢
  clear hpl
  have hll := hok.ll
  have hwt := hok.wt
  have har := hok.ar
  have hpk := hok.pk
  obtain ⟨w1, hw1⟩ : ∃ w1, w.alloc (.cells #[.int .i64 aop, .int .i64 an, .slice bA ab.length bc, .slice pA ap.length pc] 43) = w1 := ⟨_, rfl⟩
  have hB1 : Below w.heap.size w w1 := by rw [← hw1]; exact alloc_below _ _
  have hbk : Blk w1 w.heap.size 43 #[.int .i64 aop, .int .i64 an, .slice bA ab.length bc, .slice pA ap.length pc] := by rw [← hw1]; exact Blk.new _ _ _
  have hd1 := hd.below hB1
  have d0 : w1.cell? ⟨w.heap.size, 0, none⟩ = some (.int .i64 aop) := hbk.cell 0
  have d1 : w1.cell? ⟨w.heap.size, 1, none⟩ = some (.int .i64 an) := hbk.cell 1
  have d2 : w1.cell? ⟨w.heap.size, 2, none⟩ = some (.slice bA ab.length bc) := hbk.cell 2
  have d3 : w1.cell? ⟨w.heap.size, 3, none⟩ = some (.slice pA ap.length pc) := hbk.cell 3
  have hab1 := hab.below hB1
  have hap1 := hap.below hB1
  have hB1h := Lib.hid hB1
  have hd1h := Lib.hid hd1
  have hbkh := Lib.hid hbk
  have hab1h := Lib.hid hab1
  have hap1h := Lib.hid hap1
  have hpvh := Lib.hid hpv
  have hllh := Lib.hid hll
  have hW0 : Hid (WroteO w S F g d w1) := WroteO.from hB1 (WroteO.refl hd1)
  clear hab hap hB1 hd1 hbk hab1 hap1 hpv hll hok
  by_cases h1 : aop = 1
  · subst h1
    have hP : ∀ an' ab' bA' bc' , doP d ⟨1, an', .slice bA' (ab' : List UInt8).length bc', ab', .slice pA ap.length pc, ap⟩ = writeP d an' (fullP ab') := fun _ _ _ _ => rfl
    rw [hP]
    clear hP
    go_enter Try.func22, Try.ntmps22
    go_wp2_with fail
    refine wp_mixs (fun W => Blk W w.heap.size 43 #[.int .i64 1, .int .i64 an, .slice bA ab.length bc, .slice pA ap.length pc]) [5, 6] (by kernel_rfl) (by kernel_rfl) (by kernel_rfl) (by decide) (show Blk w1.drew _ _ _ from hbkh.out) ?_
    iterate 5 ((first | refine mixsq rfl rfl 0 (by decide +kernel) ?_ (fun w' hw' => Or.inl ?_) (fun K hK => ?_) | refine mixsq rfl rfl 1 (by decide +kernel) ?_ (fun w' hw' => Or.inl ?_) (fun K hK => ?_) | refine mixsq rfl rfl 2 (by decide +kernel) ?_ (fun w' hw' => Or.inl ?_) (fun K hK => ?_) | refine mixsq rfl rfl 3 (by decide +kernel) ?_ (fun w' hw' => Or.inl ?_) (fun K hK => ?_) | refine mixsq rfl rfl 4 (by decide +kernel) ?_ (fun w' hw' => Or.inl ?_) (fun K hK => ?_) | refine mixsq rfl rfl 5 (by decide +kernel) ?_ (fun w' hw' => Or.inl ?_) (fun K hK => ?_) | refine mixsq rfl rfl 6 (by decide +kernel) ?_ (fun w' hw' => Or.inl ?_) (fun K hK => ?_)); rotate_left; (focus (have hc : Blk w' w.heap.size 43 #[.int .i64 1, .int .i64 an, .slice bA ab.length bc, .slice pA ap.length pc] := hw'; have c1 := hc.cell 1; have c2 := hc.cell 2; go_simp; rfl)); go_simp; refine hK _ ?_; clear hK K)
    refine mixsl rfl rfl (fun K hK => ?_)
    go_simp
    refine (Full_calls w1.drew (.slice bA ab.length bc) ab hab1h.out (by omega)).mono ?_
    rintro e wa ⟨r, rfl, ho, hBa, _⟩
    have hBa : Below w1.heap.size w1 wa := ⟨hBa.os, hBa.tape, hBa.output, hBa.size, hBa.block⟩
    have ba : Blk wa w.heap.size 43 #[.int .i64 1, .int .i64 an, .slice bA ab.length bc, .slice pA ap.length pc] := (hBa.block _ hbkh.out.lt).trans hbkh.out
    refine hK (fun W => Blk W w.heap.size 43 #[.int .i64 1, .int .i64 an, .slice bA ab.length bc, .slice pA ap.length pc]) _ _ (fun _ => ⟨ba, fun _ => ba⟩) ?_
    clear hK K
    refine mixsl rfl rfl (fun K hK => ?_)
    go_simp
    have hda := hd1h.out.below hBa
    refine (Write_callsO wa g d S hda an r (fullP ab) (Rd.of_own ho) (hda.own8 ho) (by rw [fullP_len]; omega) (by rw [hllh.out]; exact hN) (by omega) har (by omega)).mono ?_
    rintro e wb ⟨rfl, hw⟩
    have bb : Blk wb w.heap.size 43 #[.int .i64 1, .int .i64 an, .slice bA ab.length bc, .slice pA ap.length pc] := by
      obtain ⟨S', _, _, hc, _⟩ := hw
      exact ba.chg hc (fun hS => by have := hd.lt hS; omega)
    refine hK (fun W => Blk W w.heap.size 43 #[.int .i64 1, .int .i64 an, .slice bA ab.length bc, .slice pA ap.length pc]) _ _ (fun _ => ⟨bb, ext_all (fun _ => bb) bb⟩) ?_
    clear hK K
    (first | refine mixsq rfl rfl 0 (by decide +kernel) ?_ (fun w' hw' => Or.inl ?_) (fun K hK => ?_) | refine mixsq rfl rfl 1 (by decide +kernel) ?_ (fun w' hw' => Or.inl ?_) (fun K hK => ?_) | refine mixsq rfl rfl 2 (by decide +kernel) ?_ (fun w' hw' => Or.inl ?_) (fun K hK => ?_) | refine mixsq rfl rfl 3 (by decide +kernel) ?_ (fun w' hw' => Or.inl ?_) (fun K hK => ?_) | refine mixsq rfl rfl 4 (by decide +kernel) ?_ (fun w' hw' => Or.inl ?_) (fun K hK => ?_) | refine mixsq rfl rfl 5 (by decide +kernel) ?_ (fun w' hw' => Or.inl ?_) (fun K hK => ?_) | refine mixsq rfl rfl 6 (by decide +kernel) ?_ (fun w' hw' => Or.inl ?_) (fun K hK => ?_)); rotate_left; (focus (go_simp; rfl)); go_simp; refine hK _ ?_; clear hK K
    refine mixs_nil ?_
    have hfin := Lib.hid (WroteO.from hB1h.out (WroteO.from hBa hw))
    clear hw hda
    go_wp2
    go_ret
    exact ⟨rfl, hfin.out⟩
  · by_cases h3 : aop = 3
    · subst h3
      by_cases hof : d.off = true
      · have hP : ∀ an' ab' bv' pv' ap', doP d ⟨3, an', bv', ab', pv', ap'⟩ = (6, d) := fun _ _ _ _ _ => by show (if d.off = true then ((6 : Int), d) else (0, syncD d)) = _; rw [if_pos hof]
        rw [hP]
        have hS := Lib.hid (SyncOff_callsO w1 g d S hd1h.out hof)
        clear hP hof
        go_enter Try.func22, Try.ntmps22
        go_wp2_with fail
        refine hS.out.mono ?_
        rintro e w2 ⟨rfl, rfl⟩
        go_wp2
        go_ret
        exact ⟨rfl, hW0.out⟩
      · have hP : ∀ an' ab' bv' pv' ap', doP d ⟨3, an', bv', ab', pv', ap'⟩ = (0, syncD d) := fun _ _ _ _ _ => by show (if d.off = true then ((6 : Int), d) else (0, syncD d)) = _; rw [if_neg hof]
        rw [hP]
        have hS := Lib.hid (Sync_callsO w1 g d S hd1h.out (by simpa using hof) (by rw [hllh.out]; exact hN) (by omega))
        clear hP hof
        go_enter Try.func22, Try.ntmps22
        go_wp2_with fail
        refine hS.out.mono ?_
        rintro e w2 ⟨rfl, hw⟩
        have hfin := Lib.hid (WroteO.from hB1h.out hw)
        clear hw
        go_wp2
        go_ret
        exact ⟨rfl, hfin.out⟩
    · by_cases h4 : aop = 4
      · subst h4
        have hP : ∀ an' ab' bv' pv' ap', doP d ⟨4, an', bv', ab', pv', ap'⟩ = (0, armD d an' ap') := fun _ _ _ _ _ => rfl
        rw [hP]
        have hS := Lib.hid (Arm_callsO w1 g d S hd1h.out an (.slice pA ap.length pc) ap hap1h.out (by omega))
        clear hP
        go_enter Try.func22, Try.ntmps22
        go_wp2_with fail
        refine hS.out.mono ?_
        rintro e w2 ⟨rfl, hw⟩
        have hfin := Lib.hid (WroteO.from hB1h.out hw)
        clear hw
        go_wp2
        go_ret
        exact ⟨rfl, hfin.out⟩
      · by_cases h5 : aop = 5
        · subst h5
          by_cases hof : d.off = true
          · have hP : ∀ an' ab' bv' pv' ap', doP d ⟨5, an', bv', ab', pv', ap'⟩ = (0, d) := fun _ _ _ _ ap' => by show ((0 : Int), if d.off = true then d else cutD d ap') = _; rw [if_pos hof]
            rw [hP]
            have hS := Lib.hid (CutOff_calls w1 g d S hd1h.out.all hof (.slice pA ap.length pc))
            clear hP hof
            go_enter Try.func22, Try.ntmps22
            go_wp2_with fail
            refine hS.out.mono ?_
            rintro e w2 ⟨rfl, rfl⟩
            go_wp2
            go_ret
            exact ⟨rfl, hW0.out⟩
          · have hP : ∀ an' ab' bv' pv' ap', doP d ⟨5, an', bv', ab', pv', ap'⟩ = (0, cutD d ap') := fun _ _ _ _ ap' => by show ((0 : Int), if d.off = true then d else cutD d ap') = _; rw [if_neg hof]
            rw [hP]
            have hS := Lib.hid (Cut_callsO w1 g d S hd1h.out (by simpa using hof) (by rw [hllh.out]; exact hN) (by omega) (.slice pA ap.length pc) ap hap1h.out hpvh.out (by omega))
            clear hP hof
            go_enter Try.func22, Try.ntmps22
            go_wp2_with fail
            refine hS.out.mono ?_
            rintro e w2 ⟨rfl, hw⟩
            have hfin := Lib.hid (WroteO.from hB1h.out hw)
            clear hw
            go_wp2
            go_ret
            exact ⟨rfl, hfin.out⟩
        · by_cases h6 : aop = 6
          · subst h6
            have hP : ∀ an' ab' bv' pv' ap', doP d ⟨6, an', bv', ab', pv', ap'⟩ = (0, onD d) := fun _ _ _ _ _ => rfl
            rw [hP]
            have hS := Lib.hid (On_callsO w1 g d S hd1h.out)
            clear hP
            go_enter Try.func22, Try.ntmps22
            go_wp2_with fail
            refine hS.out.mono ?_
            rintro e w2 ⟨rfl, hw⟩
            have hfin := Lib.hid (WroteO.from hB1h.out hw)
            clear hw
            go_wp2
            go_ret
            exact ⟨rfl, hfin.out⟩
          · have hP : ∀ an' ab' bv' pv' ap', doP d ⟨aop, an', bv', ab', pv', ap'⟩ = (0, d) := fun _ _ _ _ _ => by unfold doP; rw [if_neg h1, if_neg h3, if_neg h4, if_neg h5, if_neg h6]
            rw [hP]
            have e1 : ((aop : Int) == 1) = false := beq_eq_false_iff_ne.2 h1
            have e3 : ((aop : Int) == 3) = false := beq_eq_false_iff_ne.2 h3
            have e4 : ((aop : Int) == 4) = false := beq_eq_false_iff_ne.2 h4
            have e5 : ((aop : Int) == 5) = false := beq_eq_false_iff_ne.2 h5
            have e6 : ((aop : Int) == 6) = false := beq_eq_false_iff_ne.2 h6
            clear hP h1 h3 h4 h5 h6
            go_enter Try.func22, Try.ntmps22
            go_wp2
            go_ret
            exact ⟨rfl, hW0.out⟩
end Go.Proofs.Ytjldjfipacagdaa
