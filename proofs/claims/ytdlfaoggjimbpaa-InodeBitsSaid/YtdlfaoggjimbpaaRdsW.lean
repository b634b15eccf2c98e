import Derived.Test.YtdlfaoggjimbpaaRre
import Derived.Deep.CutBlock
namespace Go.Proofs.Ytdlfaoggjimbpaa
open Go.RowKit
/-- The program's reader and the document's, side by side. -/
structure PR (B : Nat) (w : World) (g q : Nat) (b u : Value) (bs : List UInt8) (p : Nat) (err : Int) : Prop where
  a : Rdr w g b (bs.drop p) err
  r : RRd w q u bs p err
  ne : g ≠ q
  nb : b.ownBlock ≠ some q
  nu : bs ≠ [] → u.ownBlock ≠ some g
  ga : B ≤ g
  gq : B ≤ q
structure PRm (B : Nat) (w : World) (g q : Nat) (b u : Value) (bs : List UInt8) (p : Nat) (err : Int) (rs : List UInt8) (err2 : Int) : Prop where
  a : Rdr w g b rs err2
  r : RRd w q u bs p err
  ne : g ≠ q
  nb : b.ownBlock ≠ some q
  nu : bs ≠ [] → u.ownBlock ≠ some g
  ga : B ≤ g
  gq : B ≤ q
theorem PR.drewN {B : Nat} {w : World} {g q : Nat} {b u : Value} {bs : List UInt8} {p : Nat} {err : Int} (h : PR B w g q b u bs p err) (n : Nat) : PR B (w.drewN n) g q b u bs p err := ⟨h.a.drewN n, h.r.drewN n, h.ne, h.nb, h.nu, h.ga, h.gq⟩
theorem PR.num1 {w0 w w' : World} {g q : Nat} {b u : Value} {bs : List UInt8} {p : Nat} {err : Int} {o : List UInt8 × List UInt8 × Int} {e : Ending} (h : PR w0.heap.size w g q b u bs p err) (hB : Below w0.heap.size w0 w) (k : NumOut w g b o e w') :
    e = .returned (.int .i64 (numP o.1)) ∧ ∃ b', PRm w0.heap.size w' g q b' u bs p err o.2.1 o.2.2 ∧ Below w0.heap.size w0 w' := by
  obtain ⟨b', rfl, h1, h2, h3⟩ := k
  exact ⟨rfl, b', ⟨h1, h.r.chg h2 (fun e => h.ne e.symm) (fun hne k hk e => h.nu hne (by rw [hk, e])), h.ne, by rw [h3]; exact h.nb, h.nu, h.ga, h.gq⟩, hB.trans (h2.below hB.size (fun k hk => by rw [hk]; exact h.ga))⟩
theorem PRm.num2 {w0 w w' : World} {g q : Nat} {b u : Value} {bs : List UInt8} {p : Nat} {err : Int} {o : List UInt8 × List UInt8 × Int} {e : Ending} (h : PRm w0.heap.size w g q b u bs p err o.2.1 o.2.2) (hB : Below w0.heap.size w0 w) (k : RNumOut w q u bs o e w') :
    e = .returned (.int .i64 (numP o.1)) ∧ ∃ p', PR w0.heap.size w' g q b u bs p' o.2.2 ∧ Below w0.heap.size w0 w' := by
  obtain ⟨rfl, p', h1, h2, h3⟩ := k
  refine ⟨rfl, p', ⟨?_, h1, h.ne, h.nb, h.nu, h.ga, h.gq⟩, hB.trans (h3.below hB.size (fun k hk => by rw [hk]; exact h.gq))⟩
  rw [h2]
  exact h.a.chg h3 h.ne (fun k hk e => h.nb (by rw [hk, e]))
theorem PR.fix1 {w0 w w' : World} {g q : Nat} {b u : Value} {bs : List UInt8} {p : Nat} {err : Int} {o : List UInt8 × List UInt8 × Int} {e : Ending} (h : PR w0.heap.size w g q b u bs p err) (hB : Below w0.heap.size w0 w) (k : FixOut w g b o e w') :
    ∃ out b', e = .returned out ∧ Own8 w' out o.1 ∧ out.ownBlock ≠ some q ∧ PRm w0.heap.size w' g q b' u bs p err o.2.1 o.2.2 ∧ Below w0.heap.size w0 w' := by
  obtain ⟨out, b', rfl, h0, h1, h2, h3, h4⟩ := k
  refine ⟨out, b', rfl, h0, fun e => ?_, ⟨h1, h.r.chg h2 (fun e => h.ne e.symm) (fun hne k hk e => h.nu hne (by rw [hk, e])), h.ne, by rw [h4]; exact h.nb, h.nu, h.ga, h.gq⟩, hB.trans (h2.below hB.size (fun k hk => by rw [hk]; exact h.ga))⟩
  have := h3 q e
  have := h.r.blk.lt
  omega
theorem PRm.fix2 {w0 w w' : World} {g q : Nat} {b u out1 : Value} {bs ys1 : List UInt8} {p : Nat} {err : Int} {o : List UInt8 × List UInt8 × Int} {e : Ending} (h : PRm w0.heap.size w g q b u bs p err o.2.1 o.2.2) (hB : Below w0.heap.size w0 w)
    (ho : Own8 w out1 ys1) (hq : out1.ownBlock ≠ some q) (k : RFixOut w q u bs o e w') :
    ∃ out p', e = .returned out ∧ Own8 w' out o.1 ∧ Rd w' out1 (bvs ys1) ∧ PR w0.heap.size w' g q b u bs p' o.2.2 ∧ Below w0.heap.size w0 w' := by
  obtain ⟨out, p', rfl, h0, h1, h2, h3, h4⟩ := k
  refine ⟨out, p', rfl, h0, (Rd.of_own ho).chg h3 (fun k hk e => hq (by rw [hk, e])), ⟨?_, h1, h.ne, h.nb, h.nu, h.ga, h.gq⟩, hB.trans (h3.below hB.size (fun k hk => by rw [hk]; exact h.gq))⟩
  rw [h2]
  exact h.a.chg h3 h.ne (fun k hk e => h.nb (by rw [hk, e]))
def RdrNew2 (w : World) (bs : List UInt8) (e : Ending) (w' : World) : Prop := ∃ g b, e = .returned (.pointer (some ⟨g, 0, none⟩)) ∧ w.heap.size ≤ g ∧ Rdr w' g b bs 0 ∧ Below w.heap.size w w' ∧ (∀ k, b.ownBlock = some k → k < w'.heap.size)
set_option maxHeartbeats 400000 in
theorem NewReader2_calls (w : World) (x : Value) (bs : List UInt8) (hx : Rd w x (bvs bs)) (hl : bs.length ≤ 1000000000) :
    Calls Try.prog 24 #[x] w (RdrNew2 w bs) := by
  obtain ⟨A, c, rfl⟩ := hx.shape8
  go_enter Try.func24, Try.ntmps24
  go_wp2_with fail
  refine (Clone8_calls w _ bs hx hl).mono ?_
  rintro e w1 ⟨r, rfl, k1, k2, k3⟩
  obtain ⟨A1, c1, rfl⟩ := k1.shape
  go_wp2
  go_ret
  refine ⟨_, _, rfl, k2.size, ⟨Blk.new _ _ _, (Rd.of_own k1).alloc _, fun e => ?_⟩, k2.alloc k2.size _, fun k hk => ?_⟩
  · have := k1.lt _ e
    omega
  · have h1 := k1.lt _ hk
    have h2 := (((Below.refl _ w1).alloc (Nat.le_refl _) (.cells #[.slice A1 bs.length c1, .int .i64 0] 82))).size
    exact Nat.lt_of_lt_of_le h1 h2
theorem endP_idem (rs : List UInt8) (err : Int) : endP rs (endP rs err) = endP rs err := by
  unfold endP
  by_cases h : err = 0 ∧ rs ≠ []
  · simp [h]
  · rw [if_neg h, if_neg h]
set_option maxRecDepth 100000 in
set_option maxHeartbeats 4000000 in
theorem CodecReads_calls (w : World) {x y : Value} {bs : List UInt8} {asks : List Ask2} (xx0 : Rd w x (bvs bs)) (ll0 : bs.length ≤ 9223372036854775807)
    (xx1 : RdF 2 w y (asks.map Ask2.row)) (ll1 : asks.length ≤ 9223372036854775807) (ww1 : ∀ a ∈ asks, a.ok) :
    Calls Try.prog 4 #[x, y] w fun e w' => e = .returned (.bool true) ∧ Below w.heap.size w w' := by
  have hx0 := xx0
  have hy0 := xx1
  obtain ⟨A, c, rfl⟩ := xx0.shape8
  obtain ⟨B, d, rfl⟩ := xx1.shape
  rw [List.length_map] at xx1 hy0 ⊢
  by_cases hg : bs.length ≤ 8192 ∧ asks.length ≤ 300
  · obtain ⟨g0, g1⟩ := hg
    go_enter Try.func4, Try.ntmps4
    go_wp2_with fail
    refine (known_calls w).mono ?_
    rintro e w1 ⟨rfl, hB1⟩
    have hx1 := hx0.below hB1
    go_wp2_with fail
    refine (NewReader2_calls w1 _ _ hx1 (by omega)).mono ?_
    rintro e w2 ⟨g, b2, rfl, hgn, h2, hB2, hb2⟩
    have hB2 : Below w.heap.size w w2 := hB1.trans (hB2.mono hB1.size)
    have hgn' : w.heap.size ≤ g := Nat.le_trans hB1.size hgn
    have hP : PR w.heap.size (w2.alloc (.cells #[.slice A bs.length c, .int .i64 0, .int .i64 0] 43)) g w2.heap.size b2 (.slice A bs.length c) bs 0 0 := by
      have hx2 := (hx0.below hB2).alloc (.cells #[.slice A bs.length c, .int .i64 0, .int .i64 0] 43)
      have hlt := h2.blk.lt
      have hsz := hB2.size
      have howl : ∀ k, (Value.slice A bs.length c).ownBlock = some k → bs ≠ [] → k < w.heap.size := by
        intro k hk hne
        obtain ⟨a2, c3, e, hc3⟩ := hx0.cell (j := 0) (by rw [bvs_length]; exact List.length_pos_iff.2 hne)
        injection e with e1 _ _
        subst e1
        have hl := World.block_lt_of_cell? w _ hc3
        rw [addr_add_block] at hl
        simp [Value.ownBlock] at hk
        rw [← hk]
        exact hl
      refine ⟨h2.below ((Below.refl _ _).alloc (Nat.le_refl _) _), ⟨Blk.new _ _ _, hx2, fun hne e => ?_, Nat.zero_le _⟩, by omega, fun e => ?_, fun hne e => ?_, hgn', by omega⟩
      · have := howl _ e hne; omega
      · have := hb2 _ e; omega
      · have := howl _ e hne; omega
    have hB3 : Below w.heap.size w (w2.alloc (.cells #[.slice A bs.length c, .int .i64 0, .int .i64 0] 43)) := hB2.trans ((Below.refl _ _).alloc hB2.size _)
    clear hx1 hgn hb2 hB1 h2 hB2
    have hP := Lib.hid hP
    have hB3 := Lib.hid hB3
    have hl := Lib.hid (show bs.length ≤ 1000000000 by omega)
    go_wp2_with fail
    generalize w2.heap.size = q at *
    go_loopw [7] (fun i wr => ∃ (k : Nat) (b : Value) (p : Nat) (err : Int), k ≤ asks.length ∧ i = .int .i64 k ∧ Hid (PR w.heap.size wr g q b (.slice A bs.length c) bs p err) ∧ Hid (Below w.heap.size w wr)) (fun i _ => asks.length - (intOf i).toNat)
    case atStart => exact ⟨0, _, _, _, Nat.zero_le _, rfl, hP, hB3⟩
    case round =>
      obtain ⟨k, b, p, err, hk, rfl, hP, hB⟩ := hrel
      clear hB3
      by_cases hlt : k < asks.length
      · have hok := ww1 _ (List.getElem_mem hlt)
        have hcell : Hid (∀ W, Below w.heap.size w W → ∃ ad, B = some ad ∧ W.cell? (ad.add (k * 2)) = some (.int .i64 (asks[k]).kind) ∧ W.cell? ⟨(ad.add (k * 2)).block, (ad.add (k * 2)).off + 1, none⟩ = some (.int .i64 (asks[k]).n)) := by
          intro W hW
          obtain ⟨ad, e, hc⟩ := (hy0.below hW).at_ (k := k) (by rw [List.length_map]; exact hlt)
          rw [List.getElem_map] at hc
          refine ⟨ad, e, ?_, add_cell (j := 0) (hc 1 _ rfl)⟩
          have := hc 0 _ rfl
          simpa [addr_add_add] using this
        obtain ⟨a1, a2⟩ := wf64 hok.2
        obtain ⟨a3, a4⟩ := wf64 hok.1
        generalize (asks[k]).n = an at *
        generalize (asks[k]).kind = kd at *
        clear hok
        obtain ⟨ad, rfl, k0, k1⟩ := hcell.out wr hB.out
        have hcell2 : Hid (∀ W, Below w.heap.size w W → W.cell? ⟨(ad.add (k * 2)).block, (ad.add (k * 2)).off + 1, none⟩ = some (.int .i64 an)) := by
          intro W hW
          obtain ⟨ad', e, _, h⟩ := hcell.out W hW
          cases e
          exact h
        clear k1
        rcases (show (kd == 1) = true ∨ ((kd == 1) = false ∧ (kd == 2) = true) ∨ ((kd == 1) = false ∧ (kd == 2) = false ∧ (kd == 3) = true) ∨ ((kd == 1) = false ∧ (kd == 2) = false ∧ (kd == 3) = false ∧ (kd == 4) = true) ∨ ((kd == 1) = false ∧ (kd == 2) = false ∧ (kd == 3) = false ∧ (kd == 4) = false) by cases kd == 1 <;> cases kd == 2 <;> cases kd == 3 <;> cases kd == 4 <;> simp) with o1 | ⟨o1, o2⟩ | ⟨o1, o2, o3⟩ | ⟨o1, o2, o3, o4⟩ | ⟨o1, o2, o3, o4⟩
        · skip
          have HC := Lib.hid (RU8_calls wr g b _ err hP.out.a (by have := hl.out; rw [List.length_drop]; omega))
          go_wp2_with fail
          refine HC.out.mono ?_
          intro e w3 kk
          obtain ⟨rfl, b3, hP3, hB3⟩ := hP.out.num1 hB.out kk
          have HD := Lib.hid (RRNumber_calls w3 q _ bs p err 1 hP3.r hl.out (by omega))
          clear kk HC
          obtain ⟨o, ho⟩ : ∃ o, Hid (o = takeP (bs.drop p) err 1) := ⟨_, rfl⟩
          have hP3 : Hid (PRm w.heap.size w3 g q b3 _ bs p err (takeP (bs.drop p) err 1).2.1 (takeP (bs.drop p) err 1).2.2) := hP3
          have hB3 := Lib.hid hB3
          rw [show ((1 : Nat) : Int) = 1 from rfl] at HD
          generalize takeP (bs.drop p) err 1 = o at *
          go_wp2_with fail
          refine HD.out.mono ?_
          intro e w4 kk
          obtain ⟨rfl, p4, hP4, hB4⟩ := hP3.out.num2 hB3.out kk
          have hP4 := Lib.hid hP4
          have hB4 := Lib.hid hB4
          clear kk HD hP3 hB3 k0
          go_wp2
          go_roundw
          case rel => exact ⟨k + 1, b3, p4, _, by omega, rfl, hP4, hB4⟩
          case measure => simp [intOf]; omega
        · skip
          have HC := Lib.hid (RU16_calls wr g b _ err hP.out.a (by have := hl.out; rw [List.length_drop]; omega))
          go_wp2_with fail
          refine HC.out.mono ?_
          intro e w3 kk
          obtain ⟨rfl, b3, hP3, hB3⟩ := hP.out.num1 hB.out kk
          have HD := Lib.hid (RRNumber_calls w3 q _ bs p err 2 hP3.r hl.out (by omega))
          clear kk HC
          obtain ⟨o, ho⟩ : ∃ o, Hid (o = takeP (bs.drop p) err 2) := ⟨_, rfl⟩
          have hP3 : Hid (PRm w.heap.size w3 g q b3 _ bs p err (takeP (bs.drop p) err 2).2.1 (takeP (bs.drop p) err 2).2.2) := hP3
          have hB3 := Lib.hid hB3
          rw [show ((2 : Nat) : Int) = 2 from rfl] at HD
          generalize takeP (bs.drop p) err 2 = o at *
          go_wp2_with fail
          refine HD.out.mono ?_
          intro e w4 kk
          obtain ⟨rfl, p4, hP4, hB4⟩ := hP3.out.num2 hB3.out kk
          have hP4 := Lib.hid hP4
          have hB4 := Lib.hid hB4
          clear kk HD hP3 hB3 k0
          go_wp2
          go_roundw
          case rel => exact ⟨k + 1, b3, p4, _, by omega, rfl, hP4, hB4⟩
          case measure => simp [intOf]; omega
        · skip
          have HC := Lib.hid (RU32_calls wr g b _ err hP.out.a (by have := hl.out; rw [List.length_drop]; omega))
          go_wp2_with fail
          refine HC.out.mono ?_
          intro e w3 kk
          obtain ⟨rfl, b3, hP3, hB3⟩ := hP.out.num1 hB.out kk
          have HD := Lib.hid (RRNumber_calls w3 q _ bs p err 4 hP3.r hl.out (by omega))
          clear kk HC
          obtain ⟨o, ho⟩ : ∃ o, Hid (o = takeP (bs.drop p) err 4) := ⟨_, rfl⟩
          have hP3 : Hid (PRm w.heap.size w3 g q b3 _ bs p err (takeP (bs.drop p) err 4).2.1 (takeP (bs.drop p) err 4).2.2) := hP3
          have hB3 := Lib.hid hB3
          rw [show ((4 : Nat) : Int) = 4 from rfl] at HD
          generalize takeP (bs.drop p) err 4 = o at *
          go_wp2_with fail
          refine HD.out.mono ?_
          intro e w4 kk
          obtain ⟨rfl, p4, hP4, hB4⟩ := hP3.out.num2 hB3.out kk
          have hP4 := Lib.hid hP4
          have hB4 := Lib.hid hB4
          clear kk HD hP3 hB3 k0
          go_wp2
          go_roundw
          case rel => exact ⟨k + 1, b3, p4, _, by omega, rfl, hP4, hB4⟩
          case measure => simp [intOf]; omega
        · skip
          have HC := Lib.hid (RFixed_calls (wr.drewN 1) g b _ err an (hP.out.drewN 1).a (by have := hl.out; rw [List.length_drop]; omega))
          have HD := Lib.hid (fun W h => Lib.hid (RRFixed_calls W q (.slice A bs.length c) bs p err an h hl.out a1 a2))
          generalize takeP (bs.drop p) err an = o at *
          have hBd : Hid (Below w.heap.size w (wr.drewN 1)) := below_drewN hB.out 1
          go_wp2_with fail
          refine wp_mixs (fun W => W.cell? ⟨(ad.add (k * 2)).block, (ad.add (k * 2)).off + 1, none⟩ = some (.int .i64 an)) [6, 14] (by kernel_rfl) (by kernel_rfl) (by kernel_rfl) (by decide) (hcell2.out _ hBd.out) ?_
          iterate 6 (refine mixsq rfl rfl 0 (by kernel_rfl) ?_ (fun w' hw' => Or.inl ?_) (fun K hK => ?_); rotate_left; (focus (have c1' : w'.cell? _ = _ := hw'; go_simp; rfl)); go_simp; refine hK _ ?_; clear hK K)
          refine mixsl rfl rfl (fun K hK => ?_)
          go_simp
          refine HC.out.mono ?_
          intro e w3 kk
          obtain ⟨out1, b3, rfl, ho1, hq1, hP3, hB3⟩ := (hP.out.drewN 1).fix1 hBd.out kk
          refine hK (fun W => Rd W out1 (bvs o.1)) _ _ (fun _ => ⟨Rd.of_own ho1, fun _ => hcell2.out _ hB3⟩) ?_
          have hD1 : Hid (∀ s, ext (fun _ => fun W : World => W.cell? ⟨(ad.add (k * 2)).block, (ad.add (k * 2)).off + 1, none⟩ = some (.int .i64 an)) 0 (fun W => Rd W out1 (bvs o.1)) s w3) := ext_all (fun _ => hcell2.out _ hB3) (Rd.of_own ho1)
          clear hK K kk HC
          refine mixsq rfl rfl 1 (by kernel_rfl) ?_ (fun w' hw' => Or.inl ?_) (fun K hK => ?_); rotate_left
          · have hw2 : Rd w' out1 (bvs o.1) := hw'
            have s1 := run_str (P := Try.prog) w' 28 9 5 _ _ Try.underlying28 Try.underlying5 Try.underlying9 hw2
            unfold str at s1
            go_simp
            rfl
          go_simp; refine hK _ ?_; clear hK K
          iterate 6 (refine mixsq rfl rfl 0 (by kernel_rfl) ?_ (fun w' hw' => Or.inl ?_) (fun K hK => ?_); rotate_left; (focus (have c1' : w'.cell? _ = _ := hw'; go_simp; rfl)); go_simp; refine hK _ ?_; clear hK K)
          refine mixsl rfl rfl (fun K hK => ?_)
          go_simp
          refine (HD.out w3 hP3.r).out.mono ?_
          intro e w4 kk
          obtain ⟨out2, p4, rfl, ho2, hr1, hP4, hB4⟩ := hP3.fix2 hB3 ho1 hq1 kk
          refine hK (fun W => Rd W out2 (bvs o.1)) _ _ (fun _ => ⟨Rd.of_own ho2, ext_all (fun _ => hcell2.out _ hB4) hr1⟩) ?_
          clear hK K kk HD hD1
          refine mixsq rfl rfl 2 (by kernel_rfl) ?_ (fun w' hw' => Or.inl ?_) (fun K hK => ?_); rotate_left
          · have hw2 : Rd w' out2 (bvs o.1) := hw'
            have s1 := run_str (P := Try.prog) w' 28 9 5 _ _ Try.underlying28 Try.underlying5 Try.underlying9 hw2
            unfold str at s1
            go_simp
            rfl
          go_simp; refine hK _ ?_; clear hK K
          refine mixsq rfl rfl 2 (by kernel_rfl) ?_ (fun w' hw' => Or.inl ?_) (fun K hK => ?_); rotate_left; (focus (go_simp; rfl)); go_simp; refine hK _ ?_; clear hK K
          refine mixs_nil ?_
          have hP4 := Lib.hid hP4
          have hB4 := Lib.hid hB4
          clear hP3 hB3 k0 ho1 ho2 hr1 hq1
          go_wp2
          go_roundw
          case rel => exact ⟨k + 1, b3, p4, _, by omega, rfl, hP4, hB4⟩
          case measure => simp [intOf]; omega
        · skip
          have HC := Lib.hid (RBytes_calls (wr.drewN 1) g b _ err an (hP.out.drewN 1).a (by have := hl.out; rw [List.length_drop]; omega))
          have HD := Lib.hid (fun W h => Lib.hid (RRBytes_calls W q (.slice A bs.length c) bs p err an h hl.out))
          generalize bytesP (bs.drop p) err an = o at *
          have hBd : Hid (Below w.heap.size w (wr.drewN 1)) := below_drewN hB.out 1
          go_wp2_with fail
          refine wp_mixs (fun W => W.cell? ⟨(ad.add (k * 2)).block, (ad.add (k * 2)).off + 1, none⟩ = some (.int .i64 an)) [6, 14] (by kernel_rfl) (by kernel_rfl) (by kernel_rfl) (by decide) (hcell2.out _ hBd.out) ?_
          iterate 6 (refine mixsq rfl rfl 0 (by kernel_rfl) ?_ (fun w' hw' => Or.inl ?_) (fun K hK => ?_); rotate_left; (focus (have c1' : w'.cell? _ = _ := hw'; go_simp; rfl)); go_simp; refine hK _ ?_; clear hK K)
          refine mixsl rfl rfl (fun K hK => ?_)
          go_simp
          refine HC.out.mono ?_
          intro e w3 kk
          obtain ⟨out1, b3, rfl, ho1, hq1, hP3, hB3⟩ := (hP.out.drewN 1).fix1 hBd.out kk
          refine hK (fun W => Rd W out1 (bvs o.1)) _ _ (fun _ => ⟨Rd.of_own ho1, fun _ => hcell2.out _ hB3⟩) ?_
          have hD1 : Hid (∀ s, ext (fun _ => fun W : World => W.cell? ⟨(ad.add (k * 2)).block, (ad.add (k * 2)).off + 1, none⟩ = some (.int .i64 an)) 0 (fun W => Rd W out1 (bvs o.1)) s w3) := ext_all (fun _ => hcell2.out _ hB3) (Rd.of_own ho1)
          clear hK K kk HC
          refine mixsq rfl rfl 1 (by kernel_rfl) ?_ (fun w' hw' => Or.inl ?_) (fun K hK => ?_); rotate_left
          · have hw2 : Rd w' out1 (bvs o.1) := hw'
            have s1 := run_str (P := Try.prog) w' 28 9 5 _ _ Try.underlying28 Try.underlying5 Try.underlying9 hw2
            unfold str at s1
            go_simp
            rfl
          go_simp; refine hK _ ?_; clear hK K
          iterate 6 (refine mixsq rfl rfl 0 (by kernel_rfl) ?_ (fun w' hw' => Or.inl ?_) (fun K hK => ?_); rotate_left; (focus (have c1' : w'.cell? _ = _ := hw'; go_simp; rfl)); go_simp; refine hK _ ?_; clear hK K)
          refine mixsl rfl rfl (fun K hK => ?_)
          go_simp
          refine (HD.out w3 hP3.r).out.mono ?_
          intro e w4 kk
          obtain ⟨out2, p4, rfl, ho2, hr1, hP4, hB4⟩ := hP3.fix2 hB3 ho1 hq1 kk
          refine hK (fun W => Rd W out2 (bvs o.1)) _ _ (fun _ => ⟨Rd.of_own ho2, ext_all (fun _ => hcell2.out _ hB4) hr1⟩) ?_
          clear hK K kk HD hD1
          refine mixsq rfl rfl 2 (by kernel_rfl) ?_ (fun w' hw' => Or.inl ?_) (fun K hK => ?_); rotate_left
          · have hw2 : Rd w' out2 (bvs o.1) := hw'
            have s1 := run_str (P := Try.prog) w' 28 9 5 _ _ Try.underlying28 Try.underlying5 Try.underlying9 hw2
            unfold str at s1
            go_simp
            rfl
          go_simp; refine hK _ ?_; clear hK K
          refine mixsq rfl rfl 2 (by kernel_rfl) ?_ (fun w' hw' => Or.inl ?_) (fun K hK => ?_); rotate_left; (focus (go_simp; rfl)); go_simp; refine hK _ ?_; clear hK K
          refine mixs_nil ?_
          have hP4 := Lib.hid hP4
          have hB4 := Lib.hid hB4
          clear hP3 hB3 k0 ho1 ho2 hr1 hq1
          go_wp2
          go_roundw
          case rel => exact ⟨k + 1, b3, p4, _, by omega, rfl, hP4, hB4⟩
          case measure => simp [intOf]; omega
      · have HE := Lib.hid (REnd_calls wr g b _ err hP.out.a)
        have HF := Lib.hid (RREnd_calls wr q _ bs p err hP.out.r hl.out)
        have hB := hB.out
        obtain ⟨r, hr⟩ : ∃ r, Hid (r = endP (bs.drop p) err) := ⟨_, rfl⟩
        have hid2 := endP_idem (bs.drop p) err
        rw [← hr.out] at HE HF hid2
        go_wp2_with fail
        refine HE.out.mono ?_
        rintro e w3 ⟨rfl, rfl⟩
        go_wp2_with fail
        refine HF.out.mono ?_
        rintro e w4 ⟨rfl, h4, hc4⟩
        have hB4 : Below w.heap.size w w4 := hB.trans (hc4.below hB.size (fun k hk => by rw [hk]; exact hP.out.gq))
        have ha4 := hP.out.a.chg hc4 hP.out.ne (fun k hk e => hP.out.nb (by rw [hk, e]))
        have HE4 := REnd_calls w4 g b _ err ha4
        have HF4 := RREnd_calls w4 q _ bs p r h4 hl.out
        rw [← hr.out] at HE4
        rw [hid2] at HF4
        have HE4 := Lib.hid HE4
        have HF4 := Lib.hid HF4
        clear HE HF hB hid2 ha4
        go_wp2_with fail
        refine HE4.out.mono ?_
        rintro e w5 ⟨rfl, rfl⟩
        go_wp2_with fail
        refine HF4.out.mono ?_
        rintro e w6 ⟨rfl, h6, hc6⟩
        have hB6 : Below w.heap.size w w6 := hB4.trans (hc6.below hB4.size (fun k hk => by rw [hk]; exact hP.out.gq))
        clear HE4 HF4
        go_wp2
        go_ret
        exact ⟨rfl, hB6⟩
  · have hc : 8192 < bs.length ∨ (bs.length ≤ 8192 ∧ 300 < asks.length) := by omega
    clear hg
    rcases hc with hc | ⟨c1, c2⟩
    all_goals
      go_enter Try.func4, Try.ntmps4
      go_wp2_with fail
      refine (known_calls w).mono ?_
      rintro e w1 ⟨rfl, hB1⟩
      go_wp2
      go_ret
      exact ⟨rfl, hB1⟩
end Go.Proofs.Ytdlfaoggjimbpaa
