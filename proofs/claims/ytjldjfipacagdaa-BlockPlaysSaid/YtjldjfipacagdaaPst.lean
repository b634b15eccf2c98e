/- BlockPlays: an act on both disks. -/
import Derived.Test.YtjldjfipacagdaaRfw
namespace Go.Proofs.Ytjldjfipacagdaa
open Go.RowKit
/-- Both disks in a caller's hands. -/
structure PR (w0 w : World) (g : Nat) (d : Dk) (S F : Nat → Prop) (gr : Nat) (r : Rf) (Sr : Nat → Prop) : Prop where
  one : D1 w0 w g d S F
  ref : RO w gr r Sr
  new : ∀ k, Sr k → w0.heap.size ≤ k
theorem kindR_ne {t : Nat} (h : kindR t) : t ≠ 62 ∧ t ≠ 22 ∧ t ≠ 5 ∧ t ≠ 3 := by rcases h with rfl | rfl | rfl <;> decide
theorem kindR8 : ¬ kindR 5 := fun h => (kindR_ne h).2.2.1 rfl
theorem kindRi : ¬ kindR 3 := fun h => (kindR_ne h).2.2.2 rfl
namespace PR
variable {w0 w w' : World} {g gr : Nat} {d d' : Dk} {r r' : Rf} {S F Sr : Nat → Prop}
theorem go (h : PR w0 w g d S F gr r Sr) (hb : Below w.heap.size w w') : PR w0 w' g d S F gr r Sr := ⟨h.one.go hb, h.ref.below hb, h.new⟩
theorem notS (h : PR w0 w g d S F gr r Sr) {k : Nat} (hk : Sr k) : ¬ S k := fun hS => by
  obtain ⟨t, cs, hb, hkd⟩ := h.ref.kind hk
  rcases h.one.dk.dk.kind hS hb with e | e
  · exact (kindR_ne hkd).1 e
  · exact (kindR_ne hkd).2.1 e
theorem wrote (h : PR w0 w g d S F gr r Sr) (hw : WroteO w S F g d' w') : ∃ S' F', PR w0 w' g d' S' F' gr r Sr ∧ Chg S w w' := by
  obtain ⟨S', F', h1, hc, _, _⟩ := h.one.wrote hw
  refine ⟨S', F', ⟨h1, h.ref.chg hc fun k t cs hb hkd hS => ?_, h.new⟩, hc⟩
  have hd := h.one.dk.dk.kind hS hb
  rcases hkd with hkd | rfl
  · rcases hd with e | e
    · exact (kindR_ne hkd).1 e
    · exact (kindR_ne hkd).2.1 e
  · rcases hd with e | e <;> exact absurd e (by decide)
theorem wroteR (h : PR w0 w g d S F gr r Sr) (hw : WroteR w Sr gr r' w') : ∃ Sr', PR w0 w' g d S F gr r' Sr' ∧ Chg Sr w w' := by
  obtain ⟨S', h1, hc, hs⟩ := hw
  refine ⟨S', ⟨⟨⟨h.one.dk.dk.chg hc (fun k hk hS => h.notS hS hk) (h.ref.notk kindR8) (h.ref.notk kindRi), fun k hk => Nat.lt_of_lt_of_le (h.one.dk.fl k hk) hc.size⟩, h.one.new, Below.of_chg h.one.below hc h.new⟩, h1, fun k hk => ?_⟩, hc⟩
  rcases hs k hk with e | e
  · exact h.new k e
  · exact Nat.le_trans h.one.below.size e
end PR
/-- What the calls on the document's disk ask of it. -/
structure Rok (N B : Nat) (r : Rf) : Prop where
  ll : r.l.length = N
  wt : r.wait.length ≤ B
  ar : r.armed ≤ 9223372036854775807
  pk : r.picks.length ≤ 100
theorem Rok.mono {N B B' : Nat} {r : Rf} (h : Rok N B r) (hb : B ≤ B') : Rok N B' r := ⟨h.ll, Nat.le_trans h.wt hb, h.ar, h.pk⟩
theorem Rok.cut {N B : Nat} {r : Rf} (h : Rok N B r) (p : List Int) : Rok N B (cutR r p) := by
  unfold cutR
  split
  · exact h
  · exact ⟨by show (List.map _ _).length = N; rw [List.length_map, List.length_range]; exact h.ll, Nat.zero_le _, by show (0 : Int) ≤ _; omega, h.pk⟩
theorem Rok.write {N B : Nat} {r : Rf} (h : Rok N B r) (n : Int) (b : List UInt8) : Rok N (B + 1) (writeR r n b).2 := by
  unfold writeR
  split
  · exact h.mono (Nat.le_succ _)
  · split
    · exact h.mono (Nat.le_succ _)
    · split
      · exact (h.cut _).mono (Nat.le_succ _)
      · refine ⟨h.ll, ?_, ?_, h.pk⟩
        · show (r.wait ++ [(n.toNat, b)]).length ≤ B + 1
          rw [List.length_append]
          have := h.wt
          simp only [List.length_cons, List.length_nil]
          omega
        · show (if 0 < r.armed then r.armed - 1 else r.armed) ≤ _
          have := h.ar
          split <;> omega
theorem Rok.sync {N B : Nat} {r : Rf} (h : Rok N B r) : Rok N B (syncR r).2 := by
  unfold syncR
  split
  · exact h
  · exact ⟨by show (setAll _ _).length = N; rw [setAll_len]; exact h.ll, Nat.zero_le _, h.ar, h.pk⟩
theorem Rok.arm {N B : Nat} {r : Rf} (h : Rok N B r) (n : Int) (p : List Int) (hn : n ≤ 9223372036854775807) (hp : p.length ≤ 100) : Rok N B (armR r n p) :=
  ⟨h.ll, h.wt, by show (if 1 ≤ n then n else 0) ≤ _; split <;> omega, by show (if 1 ≤ n then p else []).length ≤ _; split; exact hp; exact Nat.zero_le _⟩
theorem Rok.on {N B : Nat} {r : Rf} (h : Rok N B r) : Rok N B (onR r) := ⟨h.ll, h.wt, by show (0 : Int) ≤ _; omega, h.pk⟩
def stepDP (d : Dk) (a : ActV) : Dk := if a.op = 8 then (writeP d a.n a.b).2 else (doP d a).2
def stepRP (r : Rf) (a : ActV) : Rf :=
  if a.op = 1 then (writeR r a.n (fullP a.b)).2 else if a.op = 3 then (syncR r).2 else if a.op = 4 then armR r a.n a.p else if a.op = 5 then cutR r a.p else if a.op = 6 then onR r else if a.op = 8 then (writeR r a.n a.b).2 else r
theorem Dok.step8 {N B : Nat} {d : Dk} (h : Dok N B d) (a : ActV) (hn : (Lit.int .i64 a.n).wf = true) (hp : a.p.length ≤ 100) : Dok N (B + 1) (stepDP d a) := by
  unfold stepDP
  split
  · exact h.write _ _
  · exact h.step a hn hp
theorem Rok.step {N B : Nat} {r : Rf} (h : Rok N B r) (a : ActV) (hn : (Lit.int .i64 a.n).wf = true) (hp : a.p.length ≤ 100) : Rok N (B + 1) (stepRP r a) := by
  unfold stepRP
  split
  · exact h.write _ _
  · split
    · exact h.sync.mono (Nat.le_succ _)
    · split
      · exact (h.arm _ _ (wf64 hn).2 hp).mono (Nat.le_succ _)
      · split
        · exact (h.cut _).mono (Nat.le_succ _)
        · split
          · exact h.on.mono (Nat.le_succ _)
          · split
            · exact h.write _ _
            · exact h.mono (Nat.le_succ _)
theorem Alike.step {d : Dk} {r : Rf} (h : Alike d r) (a : ActV) : Alike (stepDP d a) (stepRP r a) := by
  unfold stepDP stepRP doP
  by_cases h1 : a.op = 1
  · rw [if_neg (by omega), if_pos h1, if_pos h1]
    exact (h.write _ _).2
  · rw [if_neg h1, if_neg h1]
    by_cases h3 : a.op = 3
    · rw [if_neg (by omega), if_pos h3, if_pos h3]
      exact h.sync.2
    · rw [if_neg h3, if_neg h3]
      by_cases h4 : a.op = 4
      · rw [if_neg (by omega), if_pos h4, if_pos h4]
        exact h.armA _ _
      · rw [if_neg h4, if_neg h4]
        by_cases h5 : a.op = 5
        · rw [if_neg (by omega), if_pos h5, if_pos h5]
          show Alike (if d.off = true then d else cutD d a.p) _
          rw [h.off]
          by_cases ho : r.off = true
          · rw [if_pos ho]
            exact h.cutOff ho _
          · rw [if_neg ho]
            exact h.cut (by simpa using ho) _
        · rw [if_neg h5, if_neg h5]
          by_cases h6 : a.op = 6
          · rw [if_neg (by omega), if_pos h6, if_pos h6]
            exact h.on
          · rw [if_neg h6, if_neg h6]
            by_cases h8 : a.op = 8
            · rw [if_pos h8, if_pos h8]
              exact (h.write _ _).2
            · rw [if_neg h8, if_neg h8]
              exact h
def StepTo (w0 : World) (g gr : Nat) (d : Dk) (r : Rf) (w' : World) : Prop := ∃ S' F' Sr', PR w0 w' g d S' F' gr r Sr'
set_option maxRecDepth 10000 in
/-- A Write of bytes that are no block. -/
theorem WriteShort_calls (w : World) (g : Nat) (d : Dk) (S : Nat → Prop) (hd : DK w g d S) (n : Int) (A : Option Addr) (c : Nat) (b : List UInt8) (hb : b.length ≠ 512) :
    Calls Try.prog 10 #[.pointer (some ⟨g, 0, none⟩), .int .i64 n, .slice A b.length c] w fun e w' => e = .returned (.int .i64 (writeP d n b).1) ∧ w = w' ∧ (writeP d n b).2 = d := by
  have hA := Lib.hid (ask_calls w g d S hd n)
  by_cases h0 : askP d n = 0
  · have e : writeP d n b = (1, d) := by unfold writeP; rw [if_neg (by simpa using h0), if_pos hb]
    rw [e]
    rw [h0] at hA
    have hb2 : ((b.length : Int) != 512) = true := by simp; omega
    generalize b.length = m at *
    clear hd e h0
    go_enter Try.func10, Try.ntmps10
    go_wp2_with fail
    refine hA.out.mono ?_
    rintro e w1 ⟨rfl, rfl⟩
    go_wp2
    go_ret
    exact ⟨rfl, rfl, trivial⟩
  · have e : writeP d n b = (askP d n, d) := by unfold writeP; rw [if_pos h0]
    rw [e]
    have hne : ((askP d n : Int) == 0) = false := beq_eq_false_iff_ne.2 h0
    have hne2 : ((askP d n : Int) != 0) = true := by rw [bne_iff_ne]; exact h0
    generalize b.length = m at *
    generalize askP d n = q at *
    clear hd e h0
    go_enter Try.func10, Try.ntmps10
    go_wp2_with fail
    refine hA.out.mono ?_
    rintro e w1 ⟨rfl, rfl⟩
    go_wp2
    go_ret
    exact ⟨rfl, rfl, trivial⟩
set_option maxRecDepth 10000 in
set_option maxHeartbeats 8000000 in
theorem step_calls (w0 w : World) (g : Nat) (d : Dk) (S F : Nat → Prop) (gr : Nat) (r : Rf) (Sr : Nat → Prop) (h : PR w0 w g d S F gr r Sr) (hA : Alike d r) (a : ActV) (ha : a.ok w0) (hb : a.b.length ≤ 512) (hp : a.p.length ≤ 100) {N B : Nat} (hd : Dok N B d) (hr : Rok N B r) (hN : N ≤ 16384) (hB : B ≤ 100000) :
    Calls Try.prog 25 #[.pointer (some ⟨g, 0, none⟩), .pointer (some ⟨gr, 0, none⟩), .agg #[.int .i64 a.op, .int .i64 a.n, a.bv, a.pv]] w fun e w' => e = .returned (.bool true) ∧ StepTo w0 g gr (stepDP d a) (stepRP r a) w' := by
  obtain ⟨aop, an, abv, ab, apv, ap⟩ := a
  have hbl := ha.2.2.1
  have hanw := ha.2.2.2.2.2
  obtain ⟨hab, hap, _, _, _, _⟩ := ha
  simp only at hab hap hb hp hbl hanw ⊢
  have hpvl : Hid (ivs ap ≠ [] → ∀ j, apv.ownBlock = some j → j < w0.heap.size) := fun hne j hj => hap.ownlt hne hj
  have hbvl : Hid (bvs ab ≠ [] → ∀ j, abv.ownBlock = some j → j < w0.heap.size) := fun hne j hj => hab.ownlt hne hj
  have hab := hab.below h.one.below
  have hap := hap.below h.one.below
  obtain ⟨bA, bc, rfl⟩ := hab.shape8
  obtain ⟨pA, pc, rfl⟩ := hap.shapeI
  have hpl : (ivs ap).length = ap.length := by simp [ivs]
  rw [hpl] at hap hpvl ⊢
  clear hpl
  have hdw := hd.wt
  have hda := hd.ar
  have hdp := hd.pk
  have hra := hr.ar
  have hrp := hr.pk
  have hrw := hr.wt
  have hdl := Lib.hid hd.ll
  have hrl := Lib.hid hr.ll
  obtain ⟨w1, hw1⟩ : ∃ w1, w.alloc (.cells #[.int .i64 aop, .int .i64 an, .slice bA ab.length bc, .slice pA ap.length pc] 43) = w1 := ⟨_, rfl⟩
  have hB1 : Below w.heap.size w w1 := by rw [← hw1]; exact alloc_below _ _
  have hbk : Blk w1 w.heap.size 43 #[.int .i64 aop, .int .i64 an, .slice bA ab.length bc, .slice pA ap.length pc] := by rw [← hw1]; exact Blk.new _ _ _
  have h1 := Lib.hid (h.go hB1)
  have d0 : w1.cell? ⟨w.heap.size, 0, none⟩ = some (.int .i64 aop) := hbk.cell 0
  have d1 : w1.cell? ⟨w.heap.size, 1, none⟩ = some (.int .i64 an) := hbk.cell 1
  have d2 : w1.cell? ⟨w.heap.size, 2, none⟩ = some (.slice bA ab.length bc) := hbk.cell 2
  have d3 : w1.cell? ⟨w.heap.size, 3, none⟩ = some (.slice pA ap.length pc) := hbk.cell 3
  have hbkh := Lib.hid hbk
  have habh := Lib.hid (hab.below hB1)
  have haph := Lib.hid (hap.below hB1)
  have hAh := Lib.hid hA
  have hwS : Hid (∀ S2 F2 Sr2 W d2 r2, PR w0 W g d2 S2 F2 gr r2 Sr2 → PR w0 W g d2 S2 F2 gr r2 Sr2) := fun _ _ _ _ _ _ h => h
  have hSlt : Hid (∀ k, S k → k < w.heap.size) := fun k hk => h.one.dk.lt hk
  have hSrlt : Hid (∀ k, Sr k → k < w.heap.size) := fun k hk => h.ref.lt hk
  have hpS : Hid (ap ≠ [] → ∀ j, (Value.slice pA ap.length pc).ownBlock = some j → ¬ S j) := fun hne j hj hS => by
    have e1 := hpvl.out (fun e => hne (List.map_eq_nil_iff.1 e)) j hj
    have e2 := h.one.new j hS
    omega
  have hpSr : Hid (ap ≠ [] → ∀ j, (Value.slice pA ap.length pc).ownBlock = some j → ¬ Sr j) := fun hne j hj hS => by
    have e1 := hpvl.out (fun e => hne (List.map_eq_nil_iff.1 e)) j hj
    have e2 := h.new j hS
    omega
  have hbS : Hid (bvs ab ≠ [] → ∀ j, (Value.slice bA ab.length bc).ownBlock = some j → ¬ S j) := fun hne j hj hS => by
    have e1 := hbvl.out hne j hj
    have e2 := h.one.new j hS
    omega
  have hbSr : Hid (bvs ab ≠ [] → ∀ j, (Value.slice bA ab.length bc).ownBlock = some j → ¬ Sr j) := fun hne j hj hS => by
    have e1 := hbvl.out hne j hj
    have e2 := h.new j hS
    omega
  clear h hA hab hap hB1 hbk hpvl hbvl hwS hd hr
  by_cases e1 : aop = 1
  · subst e1
    have hP : ∀ an' ab' bA' bc', stepDP d ⟨1, an', .slice bA' (ab' : List UInt8).length bc', ab', .slice pA ap.length pc, ap⟩ = (writeP d an' (fullP ab')).2 := fun _ _ _ _ => rfl
    have hQ : ∀ an' ab' bA' bc', stepRP r ⟨1, an', .slice bA' (ab' : List UInt8).length bc', ab', .slice pA ap.length pc, ap⟩ = (writeR r an' (fullP ab')).2 := fun _ _ _ _ => rfl
    rw [hP, hQ]
    have hW := (hAh.out.write an (fullP ab)).1
    have hfl := fullP_len ab
    clear hP hQ
    go_enter Try.func25, Try.ntmps25
    go_wp2_with fail
    refine wp_mixs (fun W => Blk W w.heap.size 43 #[.int .i64 1, .int .i64 an, .slice bA ab.length bc, .slice pA ap.length pc]) [5, 6, 12, 14] (by kernel_rfl) (by kernel_rfl) (by kernel_rfl) (by decide) (show Blk w1.drew _ _ _ from hbkh.out) ?_
    iterate 5 ((first | refine mixsq rfl rfl 0 (by decide +kernel) ?_ (fun w' hw' => Or.inl ?_) (fun K hK => ?_) | refine mixsq rfl rfl 1 (by decide +kernel) ?_ (fun w' hw' => Or.inl ?_) (fun K hK => ?_) | refine mixsq rfl rfl 2 (by decide +kernel) ?_ (fun w' hw' => Or.inl ?_) (fun K hK => ?_) | refine mixsq rfl rfl 3 (by decide +kernel) ?_ (fun w' hw' => Or.inl ?_) (fun K hK => ?_) | refine mixsq rfl rfl 4 (by decide +kernel) ?_ (fun w' hw' => Or.inl ?_) (fun K hK => ?_) | refine mixsq rfl rfl 5 (by decide +kernel) ?_ (fun w' hw' => Or.inl ?_) (fun K hK => ?_) | refine mixsq rfl rfl 6 (by decide +kernel) ?_ (fun w' hw' => Or.inl ?_) (fun K hK => ?_)); rotate_left; (focus (have hc : Blk w' w.heap.size 43 #[.int .i64 1, .int .i64 an, .slice bA ab.length bc, .slice pA ap.length pc] := hw'; have c1 := hc.cell 1; have c2 := hc.cell 2; go_simp; rfl)); go_simp; refine hK _ ?_; clear hK K)
    refine mixsl rfl rfl (fun K hK => ?_)
    go_simp
    refine (Full_calls w1.drew (.slice bA ab.length bc) ab habh.out (by omega)).mono ?_
    rintro e wa ⟨x1, rfl, ho1, hBa, _⟩
    have hBa : Below w1.heap.size w1 wa := ⟨hBa.os, hBa.tape, hBa.output, hBa.size, hBa.block⟩
    have ba : Blk wa w.heap.size 43 #[.int .i64 1, .int .i64 an, .slice bA ab.length bc, .slice pA ap.length pc] := (hBa.block _ hbkh.out.lt).trans hbkh.out
    have h2 := h1.out.go hBa
    have hab2 := habh.out.below hBa
    refine hK (fun W => Blk W w.heap.size 43 #[.int .i64 1, .int .i64 an, .slice bA ab.length bc, .slice pA ap.length pc]) _ _ (fun _ => ⟨ba, fun _ => ba⟩) ?_
    clear hK K
    refine mixsl rfl rfl (fun K hK => ?_)
    go_simp
    refine (Write_callsO wa g d S h2.one.dk an x1 (fullP ab) (Rd.of_own ho1) (h2.one.dk.own8 ho1) (by omega) (by rw [hdl.out]; exact hN) (by omega) hda (by omega)).mono ?_
    rintro e wb ⟨rfl, hw⟩
    obtain ⟨S3, F3, h3, hc3⟩ := h2.wrote hw
    have bb : Blk wb w.heap.size 43 #[.int .i64 1, .int .i64 an, .slice bA ab.length bc, .slice pA ap.length pc] := ba.chg hc3 (fun hS => by have := hSlt.out _ hS; omega)
    have hab3 := hab2.chgN hc3 hbS.out
    refine hK (fun W => Blk W w.heap.size 43 #[.int .i64 1, .int .i64 an, .slice bA ab.length bc, .slice pA ap.length pc]) _ _ (fun _ => ⟨bb, ext_all (fun _ => bb) bb⟩) ?_
    clear hK K
    iterate 5 ((first | refine mixsq rfl rfl 0 (by decide +kernel) ?_ (fun w' hw' => Or.inl ?_) (fun K hK => ?_) | refine mixsq rfl rfl 1 (by decide +kernel) ?_ (fun w' hw' => Or.inl ?_) (fun K hK => ?_) | refine mixsq rfl rfl 2 (by decide +kernel) ?_ (fun w' hw' => Or.inl ?_) (fun K hK => ?_) | refine mixsq rfl rfl 3 (by decide +kernel) ?_ (fun w' hw' => Or.inl ?_) (fun K hK => ?_) | refine mixsq rfl rfl 4 (by decide +kernel) ?_ (fun w' hw' => Or.inl ?_) (fun K hK => ?_) | refine mixsq rfl rfl 5 (by decide +kernel) ?_ (fun w' hw' => Or.inl ?_) (fun K hK => ?_) | refine mixsq rfl rfl 6 (by decide +kernel) ?_ (fun w' hw' => Or.inl ?_) (fun K hK => ?_)); rotate_left; (focus (have hc : Blk w' w.heap.size 43 #[.int .i64 1, .int .i64 an, .slice bA ab.length bc, .slice pA ap.length pc] := hw'; have c1 := hc.cell 1; have c2 := hc.cell 2; go_simp; rfl)); go_simp; refine hK _ ?_; clear hK K)
    refine mixsl rfl rfl (fun K hK => ?_)
    go_simp
    refine (Full_calls wb (.slice bA ab.length bc) ab hab3 (by omega)).mono ?_
    rintro e wc ⟨x2, rfl, ho2, hBc, _⟩
    obtain ⟨xA, xc, rfl⟩ := ho2.shape
    rw [fullP_len] at ho2
    have bcw : Blk wc w.heap.size 43 #[.int .i64 1, .int .i64 an, .slice bA ab.length bc, .slice pA ap.length pc] := (hBc.block _ bb.lt).trans bb
    have h4 := h3.go hBc
    have hrd := Rd.of_own ho2
    refine hK (fun W => Rd W (.slice xA 512 xc) (bvs (fullP ab))) _ _ (fun _ => ⟨hrd, ext_all (ext_all (fun _ => bcw) bcw) bcw⟩) ?_
    clear hK K
    (refine mixsq rfl rfl 3 (by decide +kernel) ?_ (fun w' hw' => Or.inl ?_) (fun K hK => ?_)); rotate_left; (focus (have hc : Rd w' (.slice xA 512 xc) (bvs (fullP ab)) := hw'; have s1 := run_str (P := Try.prog) w' 22 9 5 _ _ Try.underlying22 Try.underlying5 Try.underlying9 hc; unfold str at s1; go_simp; rfl)); go_simp; refine hK _ ?_; clear hK K
    refine mixsl rfl rfl (fun K hK => ?_)
    go_simp
    refine (RWrite_calls wc gr r Sr h4.ref an (fullP ab) (by omega) (by rw [hrl.out]; exact hN) (by omega) hra (by omega)).mono ?_
    rintro e wd ⟨rfl, hw4⟩
    obtain ⟨Sr5, h5, hc5⟩ := h4.wroteR hw4
    have bd : Blk wd w.heap.size 43 #[.int .i64 1, .int .i64 an, .slice bA ab.length bc, .slice pA ap.length pc] := bcw.chg hc5 (fun hS => by have := hSrlt.out _ hS; omega)
    have hrd5 : Rd wd (.slice xA 512 xc) (bvs (fullP ab)) := hrd.chg hc5 (fun j hj => by obtain ⟨cs, hk⟩ := own_kind ho2 hj; exact h4.ref.notk kindR8 _ _ hk)
    refine hK (fun W => True) _ _ (fun _ => ⟨trivial, ext_all (ext_all (ext_all (fun _ => bd) bd) bd) hrd5⟩) ?_
    clear hK K
    iterate 2 ((first | refine mixsq rfl rfl 0 (by decide +kernel) ?_ (fun w' hw' => Or.inl ?_) (fun K hK => ?_) | refine mixsq rfl rfl 1 (by decide +kernel) ?_ (fun w' hw' => Or.inl ?_) (fun K hK => ?_) | refine mixsq rfl rfl 2 (by decide +kernel) ?_ (fun w' hw' => Or.inl ?_) (fun K hK => ?_) | refine mixsq rfl rfl 3 (by decide +kernel) ?_ (fun w' hw' => Or.inl ?_) (fun K hK => ?_) | refine mixsq rfl rfl 4 (by decide +kernel) ?_ (fun w' hw' => Or.inl ?_) (fun K hK => ?_) | refine mixsq rfl rfl 5 (by decide +kernel) ?_ (fun w' hw' => Or.inl ?_) (fun K hK => ?_) | refine mixsq rfl rfl 6 (by decide +kernel) ?_ (fun w' hw' => Or.inl ?_) (fun K hK => ?_)); rotate_left; (focus (go_simp; rfl)); go_simp; refine hK _ ?_; clear hK K)
    refine mixs_nil ?_
    have hfin : Hid (StepTo w0 g gr (writeP d an (fullP ab)).2 (writeR r an (fullP ab)).2 wd) := ⟨_, _, _, h5⟩
    clear hw hw4 h2 h3 h4 h5 ho1 ho2 hrd hrd5
    go_wp2
    go_ret
    exact ⟨rfl, hfin.out⟩
  by_cases e2 : aop = 2
  · subst e2
    have hP : ∀ an' ab' bv' pv' ap', stepDP d ⟨2, an', bv', ab', pv', ap'⟩ = d := fun _ _ _ _ _ => rfl
    have hQ : ∀ an' ab' bv' pv' ap', stepRP r ⟨2, an', bv', ab', pv', ap'⟩ = r := fun _ _ _ _ _ => rfl
    rw [hP, hQ]
    clear hP hQ
    have hRd := Lib.hid (Read_callsO w1 g d S h1.out.one.dk an (by rw [hdl.out]; exact hN) (fun vs hvs => by have := waitP_le d hvs; omega))
    have hask := hAh.out.ask an
    by_cases h0 : askP d an = 0
    · have hR : readR r an = (lastR r an.toNat, 0) := by
        unfold readR
        rw [if_neg (by rw [← hask, h0]; simp)]
      have hla := hAh.out.last an.toNat
      clear hask
      go_enter Try.func25, Try.ntmps25
      go_wp2_with fail
      refine hRd.out.mono ?_
      rintro e wa (⟨_, x1, rfl, ho, hBa, _⟩ | ⟨h9, _⟩)
      rotate_left
      · exact absurd h0 h9
      have h2 := Lib.hid (h1.out.go hBa)
      have ba := (hBa.block _ hbkh.out.lt).trans hbkh.out
      have ba : Blk wa w.heap.size 43 #[.int .i64 2, .int .i64 an, .slice bA ab.length bc, .slice pA ap.length pc] := ba
      have c1' : wa.cell? ⟨w.heap.size, 1, none⟩ = some (.int .i64 an) := ba.cell 1
      have hx := Rd.of_own ho
      rw [hla] at hx
      obtain ⟨xA, xc, rfl⟩ := hx.shape8
      have s1 := run_str (P := Try.prog) wa 22 9 5 _ _ Try.underlying22 Try.underlying5 Try.underlying9 hx
      unfold str at s1
      clear ba ho hx hBa
      go_wp2_with fail
      refine (RRead_calls wa gr r Sr h2.out.ref an (by rw [hrl.out]; exact hN) (by omega)).mono ?_
      rintro e wb ⟨rfl, rfl⟩
      rw [hR]
      unfold str
      have hfin : Hid (StepTo w0 g gr d r wa) := ⟨_, _, _, h2.out⟩
      clear hR hla
      simp only
      generalize lastR r an.toNat = bs at *
      go_wp2
      go_ret
      exact ⟨rfl, hfin.out⟩
    · have hR : readR r an = ([], askP d an) := by
        unfold readR
        rw [if_pos (by rw [← hask]; exact h0), hask]
      clear hask
      go_enter Try.func25, Try.ntmps25
      go_wp2_with fail
      refine hRd.out.mono ?_
      rintro e wa (⟨h9, _⟩ | ⟨_, rfl, rfl⟩)
      · exact absurd h9 h0
      generalize askP d an = q at *
      have s1 := run_str (P := Try.prog) w1 22 9 5 _ _ Try.underlying22 Try.underlying5 Try.underlying9 (show Rd w1 (.slice none 0 0) (bvs []) from Rd.nil _ _ _)
      unfold str at s1
      go_wp2_with fail
      refine (RRead_calls w1 gr r Sr h1.out.ref an (by rw [hrl.out]; exact hN) (by omega)).mono ?_
      rintro e wb ⟨rfl, rfl⟩
      rw [hR]
      unfold str
      have hfin : Hid (StepTo w0 g gr d r w1) := ⟨_, _, _, h1.out⟩
      clear hR
      simp only
      go_wp2
      go_ret
      exact ⟨rfl, hfin.out⟩
  by_cases e3 : aop = 3
  · subst e3
    have hP : ∀ an' ab' bv' pv' ap', stepDP d ⟨3, an', bv', ab', pv', ap'⟩ = (if d.off = true then ((6 : Int), d) else (0, syncD d)).2 := fun _ _ _ _ _ => rfl
    have hQ : ∀ an' ab' bv' pv' ap', stepRP r ⟨3, an', bv', ab', pv', ap'⟩ = (syncR r).2 := fun _ _ _ _ _ => rfl
    rw [hP, hQ]
    have hW := hAh.out.sync.1
    have hS : Hid (Calls Try.prog 12 #[.pointer (some ⟨g, 0, none⟩)] w1 fun e w' => e = .returned (.int .i64 (if d.off = true then ((6 : Int), d) else (0, syncD d)).1) ∧ WroteO w1 S F g (if d.off = true then ((6 : Int), d) else (0, syncD d)).2 w') := by
      by_cases ho : d.off = true
      · rw [if_pos ho]
        refine (SyncOff_callsO w1 g d S h1.out.one.dk ho).mono ?_
        rintro e w2 ⟨rfl, rfl⟩
        exact ⟨rfl, WroteO.refl h1.out.one.dk⟩
      · rw [if_neg ho]
        exact Sync_callsO w1 g d S h1.out.one.dk (by simpa using ho) (by rw [hdl.out]; exact hN) (by omega)
    clear hP hQ
    rw [hW] at hS
    have hlo := Lib.hid hAh.out.lo
    obtain ⟨dn, hdn⟩ : ∃ dn, (if d.off = true then ((6 : Int), d) else (0, syncD d)).2 = dn := ⟨_, rfl⟩
    rw [hdn] at hS ⊢
    clear hdn hW
    obtain ⟨q, hqq⟩ : ∃ q, Hid (q = (syncR r).1) := ⟨_, rfl⟩
    rw [← hqq.out] at hS
    go_enter Try.func25, Try.ntmps25
    go_wp2_with fail
    refine hS.out.mono ?_
    rintro e wa ⟨rfl, hwa⟩
    obtain ⟨S2, F2, h2, _⟩ := h1.out.wrote hwa
    go_wp2_with fail
    refine (RSync_calls wa gr r Sr h2.ref (by omega) (by rw [hrl.out]; exact hN) hlo.out).mono ?_
    rintro e wb ⟨rfl, hwb⟩
    obtain ⟨Sr3, h3, _⟩ := h2.wroteR hwb
    have hfin : Hid (StepTo w0 g gr dn (syncR r).2 wb) := ⟨_, _, _, h3⟩
    rw [← hqq.out]
    clear hwa hwb h2 h3 hS
    go_wp2
    go_ret
    exact ⟨rfl, hfin.out⟩
  by_cases e4 : aop = 4
  · subst e4
    have hP : ∀ an' ab' bv' pv' ap', stepDP d ⟨4, an', bv', ab', pv', ap'⟩ = armD d an' ap' := fun _ _ _ _ _ => rfl
    have hQ : ∀ an' ab' bv' pv' ap', stepRP r ⟨4, an', bv', ab', pv', ap'⟩ = armR r an' ap' := fun _ _ _ _ _ => rfl
    rw [hP, hQ]
    clear hP hQ
    go_enter Try.func25, Try.ntmps25
    go_wp2_with fail
    refine (Arm_callsO w1 g d S h1.out.one.dk an (.slice pA ap.length pc) ap haph.out (by omega)).mono ?_
    rintro e wa ⟨rfl, hwa⟩
    obtain ⟨S2, F2, h2, hca⟩ := h1.out.wrote hwa
    have ba := hbkh.out.chg hca (fun hS => by have := hSlt.out _ hS; omega)
    have c1' : wa.cell? ⟨w.heap.size, 1, none⟩ = some (.int .i64 an) := ba.cell 1
    have c3' : wa.cell? ⟨w.heap.size, 3, none⟩ = some (.slice pA ap.length pc) := ba.cell 3
    have hapa := Lib.hid (haph.out.chgN hca (fun hne => hpS.out (fun e => hne (by rw [e]; rfl))))
    have hwa := Lib.hid h2
    clear h2 ba
    go_wp2_with fail
    refine (RArm_calls wa gr r Sr hwa.out.ref an (.slice pA ap.length pc) ap hapa.out hpSr.out (by omega)).mono ?_
    rintro e wb ⟨rfl, hwb⟩
    obtain ⟨Sr3, h3, _⟩ := hwa.out.wroteR hwb
    have hfin : Hid (StepTo w0 g gr (armD d an ap) (armR r an ap) wb) := ⟨_, _, _, h3⟩
    clear hwb h3 hwa
    go_wp2
    go_ret
    exact ⟨rfl, hfin.out⟩
  by_cases e5 : aop = 5
  · subst e5
    have hP : ∀ an' ab' bv' pv' ap', stepDP d ⟨5, an', bv', ab', pv', ap'⟩ = (if d.off = true then d else cutD d ap') := fun _ _ _ _ _ => rfl
    have hQ : ∀ an' ab' bv' pv' ap', stepRP r ⟨5, an', bv', ab', pv', ap'⟩ = cutR r ap' := fun _ _ _ _ _ => rfl
    rw [hP, hQ]
    clear hP hQ
    have hS : Hid (Calls Try.prog 13 #[.pointer (some ⟨g, 0, none⟩), .slice pA ap.length pc] w1 fun e w' => e = .returned (.tuple #[]) ∧ WroteO w1 S F g (if d.off = true then d else cutD d ap) w') := by
      by_cases ho : d.off = true
      · rw [if_pos ho]
        refine (CutOff_calls w1 g d S h1.out.one.dk.all ho (.slice pA ap.length pc)).mono ?_
        rintro e w2 ⟨rfl, rfl⟩
        exact ⟨rfl, WroteO.refl h1.out.one.dk⟩
      · rw [if_neg ho]
        exact Cut_callsO w1 g d S h1.out.one.dk (by simpa using ho) (by rw [hdl.out]; exact hN) (by omega) (.slice pA ap.length pc) ap haph.out hpS.out (by omega)
    obtain ⟨dn, hdn⟩ : ∃ dn, (if d.off = true then d else cutD d ap) = dn := ⟨_, rfl⟩
    rw [hdn] at hS ⊢
    clear hdn
    go_enter Try.func25, Try.ntmps25
    go_wp2_with fail
    refine hS.out.mono ?_
    rintro e wa ⟨rfl, hwa⟩
    obtain ⟨S2, F2, h2, hca⟩ := h1.out.wrote hwa
    have ba := hbkh.out.chg hca (fun hS => by have := hSlt.out _ hS; omega)
    have c3' : wa.cell? ⟨w.heap.size, 3, none⟩ = some (.slice pA ap.length pc) := ba.cell 3
    have hapa := Lib.hid (haph.out.chgN hca (fun hne => hpS.out (fun e => hne (by rw [e]; rfl))))
    have hwa := Lib.hid h2
    clear h2 ba hS
    go_wp2_with fail
    refine (RCut_calls wa gr r Sr hwa.out.ref (by omega) (by rw [hrl.out]; exact hN) (.slice pA ap.length pc) ap hapa.out hpSr.out (by omega)).mono ?_
    rintro e wb ⟨rfl, hwb⟩
    obtain ⟨Sr3, h3, _⟩ := hwa.out.wroteR hwb
    have hfin : Hid (StepTo w0 g gr dn (cutR r ap) wb) := ⟨_, _, _, h3⟩
    clear hwb h3 hwa
    go_wp2
    go_ret
    exact ⟨rfl, hfin.out⟩
  by_cases e6 : aop = 6
  · subst e6
    have hP : ∀ an' ab' bv' pv' ap', stepDP d ⟨6, an', bv', ab', pv', ap'⟩ = onD d := fun _ _ _ _ _ => rfl
    have hQ : ∀ an' ab' bv' pv' ap', stepRP r ⟨6, an', bv', ab', pv', ap'⟩ = onR r := fun _ _ _ _ _ => rfl
    rw [hP, hQ]
    clear hP hQ
    go_enter Try.func25, Try.ntmps25
    go_wp2_with fail
    refine (On_callsO w1 g d S h1.out.one.dk).mono ?_
    rintro e wa ⟨rfl, hwa⟩
    obtain ⟨S2, F2, h2, hca⟩ := h1.out.wrote hwa
    have hwa := Lib.hid h2
    clear h2
    go_wp2_with fail
    refine (ROn_calls wa gr r Sr hwa.out.ref).mono ?_
    rintro e wb ⟨rfl, hwb⟩
    obtain ⟨Sr3, h3, _⟩ := hwa.out.wroteR hwb
    have hfin : Hid (StepTo w0 g gr (onD d) (onR r) wb) := ⟨_, _, _, h3⟩
    clear hwb h3 hwa
    go_wp2
    go_ret
    exact ⟨rfl, hfin.out⟩
  by_cases e8 : aop = 8
  · subst e8
    have hP : ∀ an' ab' bA' bc', stepDP d ⟨8, an', .slice bA' (ab' : List UInt8).length bc', ab', .slice pA ap.length pc, ap⟩ = (writeP d an' ab').2 := fun _ _ _ _ => rfl
    have hQ : ∀ an' ab' bA' bc', stepRP r ⟨8, an', .slice bA' (ab' : List UInt8).length bc', ab', .slice pA ap.length pc, ap⟩ = (writeR r an' ab').2 := fun _ _ _ _ => rfl
    rw [hP, hQ]
    have hW := (hAh.out.write an ab).1
    clear hP hQ
    by_cases h512 : ab.length ≠ 512
    · have hwd2 : (writeP d an ab).2 = d := by
        unfold writeP
        rw [if_pos h512]
        split <;> rfl
      rw [hwd2]
      go_enter Try.func25, Try.ntmps25
      go_wp2_with fail
      refine wp_mixs (fun W => Blk W w.heap.size 43 #[.int .i64 8, .int .i64 an, .slice bA ab.length bc, .slice pA ap.length pc] ∧ Rd W (.slice bA ab.length bc) (bvs ab)) [5, 12] (by kernel_rfl) (by kernel_rfl) (by kernel_rfl) (by decide) ⟨hbkh.out, habh.out.drew⟩ ?_
      iterate 5 ((first | refine mixsq rfl rfl 0 (by decide +kernel) ?_ (fun w' hw' => Or.inl ?_) (fun K hK => ?_) | refine mixsq rfl rfl 1 (by decide +kernel) ?_ (fun w' hw' => Or.inl ?_) (fun K hK => ?_) | refine mixsq rfl rfl 2 (by decide +kernel) ?_ (fun w' hw' => Or.inl ?_) (fun K hK => ?_) | refine mixsq rfl rfl 3 (by decide +kernel) ?_ (fun w' hw' => Or.inl ?_) (fun K hK => ?_) | refine mixsq rfl rfl 4 (by decide +kernel) ?_ (fun w' hw' => Or.inl ?_) (fun K hK => ?_) | refine mixsq rfl rfl 5 (by decide +kernel) ?_ (fun w' hw' => Or.inl ?_) (fun K hK => ?_) | refine mixsq rfl rfl 6 (by decide +kernel) ?_ (fun w' hw' => Or.inl ?_) (fun K hK => ?_)); rotate_left; (focus (have hc : Blk w' w.heap.size 43 #[.int .i64 8, .int .i64 an, .slice bA ab.length bc, .slice pA ap.length pc] ∧ Rd w' (.slice bA ab.length bc) (bvs ab) := hw'; have c1 := hc.1.cell 1; have c2 := hc.1.cell 2; go_simp; rfl)); go_simp; refine hK _ ?_; clear hK K)
      refine mixsl rfl rfl (fun K hK => ?_)
      go_simp
      have h2 := h1.out.go (show Below w1.heap.size w1 w1.drew from (Below.refl _ _).drew)
      refine (WriteShort_calls w1.drew g d S h2.one.dk.all an bA bc ab h512).mono ?_
      rintro e wb ⟨rfl, rfl, hwd⟩
      have bb : Blk w1.drew w.heap.size 43 #[.int .i64 8, .int .i64 an, .slice bA ab.length bc, .slice pA ap.length pc] := hbkh.out
      have hab3 : Rd w1.drew (.slice bA ab.length bc) (bvs ab) := habh.out.drew
      have h3 := h2
      refine hK (fun W => Blk W w.heap.size 43 #[.int .i64 8, .int .i64 an, .slice bA ab.length bc, .slice pA ap.length pc] ∧ Rd W (.slice bA ab.length bc) (bvs ab)) _ _ (fun _ => ⟨⟨bb, hab3⟩, fun _ => ⟨bb, hab3⟩⟩) ?_
      clear hK K
      iterate 5 ((first | refine mixsq rfl rfl 0 (by decide +kernel) ?_ (fun w' hw' => Or.inl ?_) (fun K hK => ?_) | refine mixsq rfl rfl 1 (by decide +kernel) ?_ (fun w' hw' => Or.inl ?_) (fun K hK => ?_) | refine mixsq rfl rfl 2 (by decide +kernel) ?_ (fun w' hw' => Or.inl ?_) (fun K hK => ?_) | refine mixsq rfl rfl 3 (by decide +kernel) ?_ (fun w' hw' => Or.inl ?_) (fun K hK => ?_) | refine mixsq rfl rfl 4 (by decide +kernel) ?_ (fun w' hw' => Or.inl ?_) (fun K hK => ?_) | refine mixsq rfl rfl 5 (by decide +kernel) ?_ (fun w' hw' => Or.inl ?_) (fun K hK => ?_) | refine mixsq rfl rfl 6 (by decide +kernel) ?_ (fun w' hw' => Or.inl ?_) (fun K hK => ?_)); rotate_left; (focus (have hc : Blk w' w.heap.size 43 #[.int .i64 8, .int .i64 an, .slice bA ab.length bc, .slice pA ap.length pc] ∧ Rd w' (.slice bA ab.length bc) (bvs ab) := hw'; have c1 := hc.1.cell 1; have c2 := hc.1.cell 2; go_simp; rfl)); go_simp; refine hK _ ?_; clear hK K)
      (first | refine mixsq rfl rfl 0 (by decide +kernel) ?_ (fun w' hw' => Or.inl ?_) (fun K hK => ?_) | refine mixsq rfl rfl 1 (by decide +kernel) ?_ (fun w' hw' => Or.inl ?_) (fun K hK => ?_) | refine mixsq rfl rfl 2 (by decide +kernel) ?_ (fun w' hw' => Or.inl ?_) (fun K hK => ?_) | refine mixsq rfl rfl 3 (by decide +kernel) ?_ (fun w' hw' => Or.inl ?_) (fun K hK => ?_) | refine mixsq rfl rfl 4 (by decide +kernel) ?_ (fun w' hw' => Or.inl ?_) (fun K hK => ?_) | refine mixsq rfl rfl 5 (by decide +kernel) ?_ (fun w' hw' => Or.inl ?_) (fun K hK => ?_) | refine mixsq rfl rfl 6 (by decide +kernel) ?_ (fun w' hw' => Or.inl ?_) (fun K hK => ?_)); rotate_left; (focus (have hc : Blk w' w.heap.size 43 #[.int .i64 8, .int .i64 an, .slice bA ab.length bc, .slice pA ap.length pc] ∧ Rd w' (.slice bA ab.length bc) (bvs ab) := hw'; have s1 := run_str (P := Try.prog) w' 22 9 5 _ _ Try.underlying22 Try.underlying5 Try.underlying9 hc.2; unfold str at s1; go_simp; rfl)); go_simp; refine hK _ ?_; clear hK K
      refine mixsl rfl rfl (fun K hK => ?_)
      go_simp
      refine (RWrite_calls w1.drew gr r Sr h3.ref an ab (by omega) (by rw [hrl.out]; exact hN) (by omega) hra (by omega)).mono ?_
      rintro e wd ⟨rfl, hw4⟩
      obtain ⟨Sr5, h5, hc5⟩ := h3.wroteR hw4
      have bd : Blk wd w.heap.size 43 #[.int .i64 8, .int .i64 an, .slice bA ab.length bc, .slice pA ap.length pc] := bb.chg hc5 (fun hS => by have := hSrlt.out _ hS; omega)
      have habd : Rd wd (.slice bA ab.length bc) (bvs ab) := hab3.chgN hc5 hbSr.out
      refine hK (fun W => True) _ _ (fun _ => ⟨trivial, ext_all (fun _ => ⟨bd, habd⟩) ⟨bd, habd⟩⟩) ?_
      clear hK K
      iterate 2 ((first | refine mixsq rfl rfl 0 (by decide +kernel) ?_ (fun w' hw' => Or.inl ?_) (fun K hK => ?_) | refine mixsq rfl rfl 1 (by decide +kernel) ?_ (fun w' hw' => Or.inl ?_) (fun K hK => ?_) | refine mixsq rfl rfl 2 (by decide +kernel) ?_ (fun w' hw' => Or.inl ?_) (fun K hK => ?_) | refine mixsq rfl rfl 3 (by decide +kernel) ?_ (fun w' hw' => Or.inl ?_) (fun K hK => ?_) | refine mixsq rfl rfl 4 (by decide +kernel) ?_ (fun w' hw' => Or.inl ?_) (fun K hK => ?_) | refine mixsq rfl rfl 5 (by decide +kernel) ?_ (fun w' hw' => Or.inl ?_) (fun K hK => ?_) | refine mixsq rfl rfl 6 (by decide +kernel) ?_ (fun w' hw' => Or.inl ?_) (fun K hK => ?_)); rotate_left; (focus (go_simp; rfl)); go_simp; refine hK _ ?_; clear hK K)
      refine mixs_nil ?_
      have hfin : Hid (StepTo w0 g gr d (writeR r an ab).2 wd) := ⟨_, _, _, h5⟩
      clear hw4 h2 h3 h5
      go_wp2
      go_ret
      exact ⟨rfl, hfin.out⟩
    · have hne : bvs ab ≠ [] := fun e => h512 (by rw [← bvs_length, e]; simp)
      go_enter Try.func25, Try.ntmps25
      go_wp2_with fail
      refine wp_mixs (fun W => Blk W w.heap.size 43 #[.int .i64 8, .int .i64 an, .slice bA ab.length bc, .slice pA ap.length pc] ∧ Rd W (.slice bA ab.length bc) (bvs ab)) [5, 12] (by kernel_rfl) (by kernel_rfl) (by kernel_rfl) (by decide) ⟨hbkh.out, habh.out.drew⟩ ?_
      iterate 5 ((first | refine mixsq rfl rfl 0 (by decide +kernel) ?_ (fun w' hw' => Or.inl ?_) (fun K hK => ?_) | refine mixsq rfl rfl 1 (by decide +kernel) ?_ (fun w' hw' => Or.inl ?_) (fun K hK => ?_) | refine mixsq rfl rfl 2 (by decide +kernel) ?_ (fun w' hw' => Or.inl ?_) (fun K hK => ?_) | refine mixsq rfl rfl 3 (by decide +kernel) ?_ (fun w' hw' => Or.inl ?_) (fun K hK => ?_) | refine mixsq rfl rfl 4 (by decide +kernel) ?_ (fun w' hw' => Or.inl ?_) (fun K hK => ?_) | refine mixsq rfl rfl 5 (by decide +kernel) ?_ (fun w' hw' => Or.inl ?_) (fun K hK => ?_) | refine mixsq rfl rfl 6 (by decide +kernel) ?_ (fun w' hw' => Or.inl ?_) (fun K hK => ?_)); rotate_left; (focus (have hc : Blk w' w.heap.size 43 #[.int .i64 8, .int .i64 an, .slice bA ab.length bc, .slice pA ap.length pc] ∧ Rd w' (.slice bA ab.length bc) (bvs ab) := hw'; have c1 := hc.1.cell 1; have c2 := hc.1.cell 2; go_simp; rfl)); go_simp; refine hK _ ?_; clear hK K)
      refine mixsl rfl rfl (fun K hK => ?_)
      go_simp
      have h2 := h1.out.go (show Below w1.heap.size w1 w1.drew from (Below.refl _ _).drew)
      refine (Write_callsO w1.drew g d S h2.one.dk an (.slice bA ab.length bc) ab habh.out.drew (hbS.out hne) (by omega) (by rw [hdl.out]; exact hN) (by omega) hda (by omega)).mono ?_
      rintro e wb ⟨rfl, hw⟩
      obtain ⟨S3, F3, h3, hc3⟩ := h2.wrote hw
      have bb : Blk wb w.heap.size 43 #[.int .i64 8, .int .i64 an, .slice bA ab.length bc, .slice pA ap.length pc] := Blk.chg (show Blk w1.drew _ _ _ from hbkh.out) hc3 (fun hS => by have := hSlt.out _ hS; omega)
      have hab3 : Rd wb (.slice bA ab.length bc) (bvs ab) := habh.out.drew.chgN hc3 hbS.out
      refine hK (fun W => Blk W w.heap.size 43 #[.int .i64 8, .int .i64 an, .slice bA ab.length bc, .slice pA ap.length pc] ∧ Rd W (.slice bA ab.length bc) (bvs ab)) _ _ (fun _ => ⟨⟨bb, hab3⟩, fun _ => ⟨bb, hab3⟩⟩) ?_
      clear hK K
      iterate 5 ((first | refine mixsq rfl rfl 0 (by decide +kernel) ?_ (fun w' hw' => Or.inl ?_) (fun K hK => ?_) | refine mixsq rfl rfl 1 (by decide +kernel) ?_ (fun w' hw' => Or.inl ?_) (fun K hK => ?_) | refine mixsq rfl rfl 2 (by decide +kernel) ?_ (fun w' hw' => Or.inl ?_) (fun K hK => ?_) | refine mixsq rfl rfl 3 (by decide +kernel) ?_ (fun w' hw' => Or.inl ?_) (fun K hK => ?_) | refine mixsq rfl rfl 4 (by decide +kernel) ?_ (fun w' hw' => Or.inl ?_) (fun K hK => ?_) | refine mixsq rfl rfl 5 (by decide +kernel) ?_ (fun w' hw' => Or.inl ?_) (fun K hK => ?_) | refine mixsq rfl rfl 6 (by decide +kernel) ?_ (fun w' hw' => Or.inl ?_) (fun K hK => ?_)); rotate_left; (focus (have hc : Blk w' w.heap.size 43 #[.int .i64 8, .int .i64 an, .slice bA ab.length bc, .slice pA ap.length pc] ∧ Rd w' (.slice bA ab.length bc) (bvs ab) := hw'; have c1 := hc.1.cell 1; have c2 := hc.1.cell 2; go_simp; rfl)); go_simp; refine hK _ ?_; clear hK K)
      (first | refine mixsq rfl rfl 0 (by decide +kernel) ?_ (fun w' hw' => Or.inl ?_) (fun K hK => ?_) | refine mixsq rfl rfl 1 (by decide +kernel) ?_ (fun w' hw' => Or.inl ?_) (fun K hK => ?_) | refine mixsq rfl rfl 2 (by decide +kernel) ?_ (fun w' hw' => Or.inl ?_) (fun K hK => ?_) | refine mixsq rfl rfl 3 (by decide +kernel) ?_ (fun w' hw' => Or.inl ?_) (fun K hK => ?_) | refine mixsq rfl rfl 4 (by decide +kernel) ?_ (fun w' hw' => Or.inl ?_) (fun K hK => ?_) | refine mixsq rfl rfl 5 (by decide +kernel) ?_ (fun w' hw' => Or.inl ?_) (fun K hK => ?_) | refine mixsq rfl rfl 6 (by decide +kernel) ?_ (fun w' hw' => Or.inl ?_) (fun K hK => ?_)); rotate_left; (focus (have hc : Blk w' w.heap.size 43 #[.int .i64 8, .int .i64 an, .slice bA ab.length bc, .slice pA ap.length pc] ∧ Rd w' (.slice bA ab.length bc) (bvs ab) := hw'; have s1 := run_str (P := Try.prog) w' 22 9 5 _ _ Try.underlying22 Try.underlying5 Try.underlying9 hc.2; unfold str at s1; go_simp; rfl)); go_simp; refine hK _ ?_; clear hK K
      refine mixsl rfl rfl (fun K hK => ?_)
      go_simp
      refine (RWrite_calls wb gr r Sr h3.ref an ab (by omega) (by rw [hrl.out]; exact hN) (by omega) hra (by omega)).mono ?_
      rintro e wd ⟨rfl, hw4⟩
      obtain ⟨Sr5, h5, hc5⟩ := h3.wroteR hw4
      have bd : Blk wd w.heap.size 43 #[.int .i64 8, .int .i64 an, .slice bA ab.length bc, .slice pA ap.length pc] := bb.chg hc5 (fun hS => by have := hSrlt.out _ hS; omega)
      have habd : Rd wd (.slice bA ab.length bc) (bvs ab) := hab3.chgN hc5 hbSr.out
      refine hK (fun W => True) _ _ (fun _ => ⟨trivial, ext_all (fun _ => ⟨bd, habd⟩) ⟨bd, habd⟩⟩) ?_
      clear hK K
      iterate 2 ((first | refine mixsq rfl rfl 0 (by decide +kernel) ?_ (fun w' hw' => Or.inl ?_) (fun K hK => ?_) | refine mixsq rfl rfl 1 (by decide +kernel) ?_ (fun w' hw' => Or.inl ?_) (fun K hK => ?_) | refine mixsq rfl rfl 2 (by decide +kernel) ?_ (fun w' hw' => Or.inl ?_) (fun K hK => ?_) | refine mixsq rfl rfl 3 (by decide +kernel) ?_ (fun w' hw' => Or.inl ?_) (fun K hK => ?_) | refine mixsq rfl rfl 4 (by decide +kernel) ?_ (fun w' hw' => Or.inl ?_) (fun K hK => ?_) | refine mixsq rfl rfl 5 (by decide +kernel) ?_ (fun w' hw' => Or.inl ?_) (fun K hK => ?_) | refine mixsq rfl rfl 6 (by decide +kernel) ?_ (fun w' hw' => Or.inl ?_) (fun K hK => ?_)); rotate_left; (focus (go_simp; rfl)); go_simp; refine hK _ ?_; clear hK K)
      refine mixs_nil ?_
      have hfin : Hid (StepTo w0 g gr (writeP d an ab).2 (writeR r an ab).2 wd) := ⟨_, _, _, h5⟩
      clear hw4 h2 h3 h5 hw
      go_wp2
      go_ret
      exact ⟨rfl, hfin.out⟩
  have hP : ∀ an' ab' bv' pv' ap', stepDP d ⟨aop, an', bv', ab', pv', ap'⟩ = d := fun _ _ _ _ _ => by unfold stepDP doP; rw [if_neg e8, if_neg e1, if_neg e3, if_neg e4, if_neg e5, if_neg e6]
  have hQ : ∀ an' ab' bv' pv' ap', stepRP r ⟨aop, an', bv', ab', pv', ap'⟩ = r := fun _ _ _ _ _ => by unfold stepRP; rw [if_neg e1, if_neg e3, if_neg e4, if_neg e5, if_neg e6, if_neg e8]
  rw [hP, hQ]
  have q1 : ((aop : Int) == 1) = false := beq_eq_false_iff_ne.2 e1
  have q2 : ((aop : Int) == 2) = false := beq_eq_false_iff_ne.2 e2
  have q3 : ((aop : Int) == 3) = false := beq_eq_false_iff_ne.2 e3
  have q4 : ((aop : Int) == 4) = false := beq_eq_false_iff_ne.2 e4
  have q5 : ((aop : Int) == 5) = false := beq_eq_false_iff_ne.2 e5
  have q6 : ((aop : Int) == 6) = false := beq_eq_false_iff_ne.2 e6
  have q8 : ((aop : Int) == 8) = false := beq_eq_false_iff_ne.2 e8
  have hfin : Hid (StepTo w0 g gr d r w1) := ⟨_, _, _, h1.out⟩
  clear hP hQ e1 e2 e3 e4 e5 e6 e8
  go_enter Try.func25, Try.ntmps25
  go_wp2
  go_ret
  exact ⟨rfl, hfin.out⟩
end Go.Proofs.Ytjldjfipacagdaa
