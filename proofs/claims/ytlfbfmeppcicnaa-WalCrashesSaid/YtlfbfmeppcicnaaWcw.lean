/- WalCrashes: open, walked. Printed by genwcr.py. WalCrashes: step, walked. Printed by genwcs.py. WalCrashes, walked. Printed by genwcw.py. -/
import Derived.Test.YtlfbfmeppcicnaaWcq
namespace Go.Proofs.Ytlfbfmeppcicnaa
open Go.RowKit
def OSt (W0 : World) (g gw : Nat) (c1 c2 c3 mv : Value) (ls : List (List (List UInt8))) (Y : Nat → Prop) (D : Nat → List UInt8) (k : Nat) (W : World) : Prop :=
  ∃ d cv cs, k + cs.length ≤ 20 ∧ WD W0 W g gw d c1 c2 c3 mv cv ls cs Y ∧ Cq 135 (fun L => Rep 135 L D) d ∧ ∀ c ∈ cs, c.p.length ≤ 100
def OpenTo (W0 : World) (g gw : Nat) (D : Nat → List UInt8) (e : Ending) (w' : World) : Prop :=
  e = .returned (.bool true) ∧ ∃ gl gr bl cl bd cd d mv cv cs Y V, WM W0 w' g gw gl gr bl cl bd cd (freshK d) none (.slice none 0 0) { newRl with L := (List.range 70).map D } mv cv [(List.range 70).map D] cs Y ∧ PA (freshK d) V ∧ HomeOk 135 V D ∧ Fit 135 1000 d ∧ cs.length ≤ 20 ∧ ∀ c ∈ cs, c.p.length ≤ 100
theorem PA.fresh {d : Dk} {V : Nat → List UInt8} (h : Pq 135 V (fun k b => b = V k) d) (h0 : V 0 = headP []) : PA (freshK d) V :=
  ⟨h, h0, fun n b e => (by cases e), by show (ksW 70 fun _ => none).length ≤ 63; rw [ksW_0]; simp⟩
/-- Behind a good Opening, amid the search. -/
structure OB (W0 w : World) (g gw gl : Nat) (d : Dk) (c1 c2 c3 mv cv : Value) (ls : List (List (List UInt8))) (cs : List CutV) (Y : Nat → Prop) : Prop where
  lg : LG W0 w gl g 135 (freshK d) (fun k => k = gw ∨ Y k)
  blk : Blk w gw 75 #[.pointer (some ⟨g, 0, none⟩), c1, c2, c3, mv, cv]
  may : MayR w Y mv ls
  cuts : RdC W0 cv cs
  hw : W0.heap.size ≤ gw ∧ ¬ Y gw ∧ ∀ k, Y k → W0.heap.size ≤ k
theorem OB.below {W0 w w' : World} {g gw gl : Nat} {d : Dk} {c1 c2 c3 mv cv : Value} {ls : List (List (List UInt8))} {cs : List CutV} {Y : Nat → Prop} (h : OB W0 w g gw gl d c1 c2 c3 mv cv ls cs Y) (hb : Below w.heap.size w w') : OB W0 w' g gw gl d c1 c2 c3 mv cv ls cs Y :=
  ⟨h.lg.below hb, (hb.block _ h.blk.lt).trans h.blk, h.may.keep (fun k hk => hb.block k (h.lg.xl k (.inr hk))), h.cuts, h.hw⟩
theorem MayR.at_ {w : World} {Y : Nat → Prop} {v : Value} {ls : List (List (List UInt8))} (h : MayR w Y v ls) {i : Nat} (hi : i < ls.length) : ∃ ad c b c', v = .slice (some ad) ls.length c ∧ w.cell? (ad.add i) = some (.slice (some ⟨b, 0, none⟩) 70 c') ∧ (ls[i]'hi).length = 70 ∧ Rd w (.slice (some ⟨b, 0, none⟩) 70 c') ((ls[i]'hi).map str) := by
  obtain ⟨us, h1, h2, h3, h4⟩ := h
  have hr := Rd.of_own h1
  obtain ⟨ad, c, e, hc⟩ := hr.cell (j := i) (by omega)
  obtain ⟨b, c', e1, e2, e3, e4, e5⟩ := h4 i (us[i]'(by omega)) (ls[i]'hi) (List.getElem?_eq_getElem _) (List.getElem?_eq_getElem _)
  refine ⟨ad, c, b, c', by rw [e, h2], by rw [hc, e1], e3, e4.rd (by rw [List.length_map]; exact e3) e2⟩
/-- The found state becomes the world's. -/
theorem OB.found {W0 w w8 wf : World} {g gw gl gr bl cl bd cd b2 k2 bm : Nat} {d : Dk} {c1 c2 c3 mv cv : Value} {ls : List (List (List UInt8))} {cs : List CutV} {Y : Nat → Prop} {r : Rl} {L : List (List UInt8)} (h : OB W0 w g gw gl d c1 c2 c3 mv cv ls cs Y) (hb : Below w.heap.size w w8) (hr : RG w8 gr bl cl bd cd (.slice none 0 0) r) (h1 : w.heap.size ≤ gr) (h2 : w.heap.size ≤ bl) (h3 : w.heap.size ≤ bd)
    (hc : Chg (fun k => k = gw) w8 wf) (hgw : Blk wf gw 75 #[.pointer (some ⟨g, 0, none⟩), .pointer (some ⟨gl, 0, none⟩), .pointer none, .pointer (some ⟨gr, 0, none⟩), .slice (some ⟨bm, 0, none⟩) 1 1, cv])
    (hb2 : RowB wf 9 b2 (L.map str)) (hk2 : 70 ≤ k2) (hL : L.length = 70) (hbm : Blk wf bm 42 #[.slice (some ⟨b2, 0, none⟩) 70 k2]) (n2 : w8.heap.size ≤ b2) (nm : w8.heap.size ≤ bm) : WM W0 wf g gw gl gr bl cl bd cd (freshK d) none (.slice none 0 0) r (.slice (some ⟨bm, 0, none⟩) 1 1) cv [L] cs (fun k => k = b2 ∨ k = bm) := by
  have hP := PM.makeG h.lg hb hr h1 h2 h3
  have hgl : gw < w8.heap.size := Nat.lt_of_lt_of_le h.blk.lt hb.size
  have hg8 : Blk w8 gw 75 #[.pointer (some ⟨g, 0, none⟩), c1, c2, c3, mv, cv] := (hb.block _ h.blk.lt).trans h.blk
  refine ⟨hP.own hc (fun k hk => ⟨.inl hk, hk ▸ h.hw.1⟩) (fun k cs hb hk => by subst hk; exact absurd rfl (hb.ne_ hg8 (by decide))) (fun k cs hb hk => by subst hk; exact absurd rfl (hb.ne_ hg8 (by decide))) (fun k hk => ?_), hgw, ⟨[.slice (some ⟨b2, 0, none⟩) 70 k2], ⟨rfl, .inr ⟨bm, 1, #[.slice (some ⟨b2, 0, none⟩) 70 k2], rfl, Nat.zero_le _, hbm, Nat.le_refl _, by unfold maxLen; omega, rfl, rfl⟩⟩, rfl, fun k hk => .inr (by have e : bm = k := Option.some.inj hk; exact e.symm), fun i u l hu hl => ?_⟩, h.cuts, h.hw.1, fun hy => by omega, fun k hk => by have := h.lg.bel.size; have := hb.size; omega⟩
  · rcases hk with rfl | rfl | rfl
    · exact .inl (.inl rfl)
    · exact .inr ⟨n2, hb2.lt⟩
    · exact .inr ⟨nm, hbm.lt⟩
  · cases i with
    | zero =>
      have e1 : Value.slice (some ⟨b2, 0, none⟩) 70 k2 = u := Option.some.inj hu
      have e2 : L = l := Option.some.inj hl
      subst e1 e2
      exact ⟨b2, k2, rfl, hk2, hL, hb2, .inl rfl⟩
    | succ i =>
      have hu : ([] : List Value)[i]? = some u := hu
      simp at hu
set_option maxRecDepth 100000 in
set_option maxHeartbeats 16000000 in
theorem open_calls {W0 w : World} {g gw : Nat} {c1 c2 c3 mv : Value} {ls : List (List (List UInt8))} {Y : Nat → Prop} {D : Nat → List UInt8} (h : OSt W0 g gw c1 c2 c3 mv ls Y D 0 w) (hD : (List.range 70).map D ∈ ls) (hlen : ls.length ≤ 1000) :
    Calls Try.prog 74 #[.pointer (some ⟨gw, 0, none⟩)] w (OpenTo W0 g gw D) := by
  have hh := Lib.hid h
  have hDh := Lib.hid hD
  obtain ⟨i2, hj, hy0, hy1, hy2⟩ := info_parts Try.info_str
  clear h hD
  go_enter Try.func74, Try.ntmps74
  go_wp2
  go_loopw [3] (fun iv wr => ∃ k : Nat, k ≤ 20 ∧ iv = .int .i64 (k : Int) ∧ Hid (OSt W0 g gw c1 c2 c3 mv ls Y D k wr)) (fun iv _ => 40 - (RowKit.intOf iv).toNat)
  case atStart => exact ⟨0, by omega, rfl, hh⟩
  case round =>
    obtain ⟨k, hk, rfl, hO⟩ := hrel
    obtain ⟨wo, rfl⟩ : ∃ wo : World, wo = wr := ⟨_, rfl⟩
    clear hh
    obtain ⟨d, cv, cs, hkc, hWD, hc, hp⟩ := hO.out
    obtain ⟨L, hL, hv, hs⟩ := hc.on_ (fun n hn => hWD.dg.len hn)
    have c0 : wo.cell? ⟨gw, 0, none⟩ = some (.pointer (some ⟨g, 0, none⟩)) := hWD.blk.cell 0
    have hOn := Lib.hid (gOn hWD.dg)
    have hWDh := Lib.hid hWD
    have hvh := Lib.hid hv
    have hsh := Lib.hid hs
    have hLh := Lib.hid hL
    have hph := Lib.hid hp
    have hk40 : (k : Int) < 40 := by omega
    clear hO hWD hc hp hv hs hL
    go_wp2_with fail
    refine hOn.out.mono ?_
    rintro e w2 ⟨rfl, g1, g2⟩
    have h2 := Lib.hid (hWDh.out.step g1 g2)
    clear hOn g1 g2 hWDh c0
    go_wp2_with fail
    refine (armD_calls h2.out hvh.out hsh.out (by omega) (fun c hc => by have := hph.out c hc; omega)).mono ?_
    rintro e w3 ⟨rfl, d2, cv2, cs2, h3, hpq, hf2, hsub, hcs⟩
    have c0 : w3.cell? ⟨gw, 0, none⟩ = some (.pointer (some ⟨g, 0, none⟩)) := h3.blk.cell 0
    have hOp := Lib.hid (openD_calls h3.dg hf2 (by omega))
    have htr := openP_tr hpq hLh.out
    have hp2 : Hid (∀ c ∈ cs2, c.p.length ≤ 100) := Lib.hid fun c hc => hph.out c (hsub c hc)
    have hno : cs = [] → (openP d2).1 = 0 := fun e => by
      rcases hcs with ⟨_, _, hv2, hs2⟩ | e2
      · obtain ⟨d', V', e3, _⟩ := open_rep hv2 hs2 (by omega) (by omega) hLh.out
        rw [e3]
      · rw [e] at e2; simp at e2
    have hlen2 : cs2.length ≤ cs.length := by
      rcases hcs with ⟨e1, e2, _⟩ | e2
      · rw [e1, e2]; exact Nat.le_refl _
      · omega
    have hlen3 : (openP d2).1 ≠ 0 → k + 1 + cs2.length ≤ 20 := fun hne => by
      rcases hcs with ⟨e1, e2, _⟩ | e2
      · exact absurd (hno e1) hne
      · omega
    have h3h := Lib.hid h3
    have hf3 := Lib.hid hf2.openP
    clear h3 hpq hf2 hsub hcs hno h2 hvh hsh hLh hph
    obtain ⟨E, hE⟩ : ∃ E, Hid ((openP d2).1 = E) := ⟨_, Lib.hid rfl⟩
    go_wp2_with fail
    refine hOp.out.mono ?_
    rintro e w4 (⟨h0, rfl, g1, g2⟩ | ⟨h0, gl, rfl, g1, g2⟩)
    · rcases htr with ⟨V', e0, _⟩ | ⟨e6, hcq⟩
      · exact absurd e0 h0
      have h4 := h3h.out.step g1 g2
      have hl20 := hlen3 h0
      have hOf := gOff h4.dg
      rw [hcq.off] at hOf
      have hOf := Lib.hid hOf
      have c0' : w4.cell? ⟨gw, 0, none⟩ = some (.pointer (some ⟨g, 0, none⟩)) := h4.blk.cell 0
      have hO5 : Hid (OSt W0 g gw c1 c2 c3 mv ls Y D (k + 1) w4) := Lib.hid ⟨_, cv2, cs2, hl20, h4, hcq, hp2.out⟩
      rw [hE.out]
      clear h0 g1 g2 e6 hcq h4 hOp h3h hlen2 hlen3 hE hf3
      go_wp2_with fail
      refine hOf.out.mono ?_
      rintro e w5 ⟨rfl, rfl⟩
      go_wp2
      go_roundw
      case rel => exact ⟨k + 1, by omega, by go_num, hO5⟩
      case measure => simp [RowKit.intOf]; omega
    · rcases htr.symm with ⟨e6, _⟩ | ⟨V', e0, hpq, hhome⟩
      · rw [h0] at e6; cases e6
      have hpa := Lib.hid (PA.fresh hpq hhome.1)
      have hOB : Hid (OB W0 w4 g gw gl (openP d2).2 c1 c2 c3 mv cv2 ls cs2 Y) := Lib.hid ⟨g1, g2.blk h3h.out.blk (.inl rfl), h3h.out.may.keep (fun k hy => g2 k (.inr hy)), h3h.out.cuts, h3h.out.hw⟩
      have hRL := Lib.hid (g1.rl hpa.out hhome hf3.out (by omega))
      have hOf := gOff g1.dg
      rw [show (freshK (openP d2).2).d.off = false from hpq.of] at hOf
      have hOf := Lib.hid hOf
      have hD5 : Hid (∀ n, n < 70 → (D n).length = 512) := Lib.hid fun n hn => by
        rw [← hhome.2 n hn]
        exact hpq.b5 _ (by omega)
      have hhh := Lib.hid hhome
      have c0' : w4.cell? ⟨gw, 0, none⟩ = some (.pointer (some ⟨g, 0, none⟩)) := hOB.out.blk.cell 0
      obtain ⟨d3, hd3⟩ : ∃ d3, Hid ((openP d2).2 = d3) := ⟨_, Lib.hid rfl⟩
      rw [hd3.out] at hOB hpa hf3
      clear e0 hpq hhome g1 g2 h0 hOp h3h hE hlen3 hd3
      go_wp2_with fail
      refine hOf.out.mono ?_
      rintro e w5 ⟨rfl, rfl⟩
      obtain ⟨mA, mc, rfl⟩ := hOB.out.may.shape
      have hlcs : Hid (cs2.length ≤ 20) := Lib.hid (by omega)
      clear hOf
      go_wp2
      go_loopw [6] (fun iv wr => ∃ i : Nat, i ≤ ls.length ∧ iv = .int .i64 (i : Int) ∧ Hid (Below w4.heap.size w4 wr) ∧ Hid (∀ j, j < i → ls[j]? ≠ some ((List.range 70).map D))) (fun iv _ => ls.length - (RowKit.intOf iv).toNat)
      case atStart => exact ⟨0, Nat.zero_le _, rfl, Lib.hid (Below.refl _ _), Lib.hid fun j hj => by omega⟩
      case round =>
        obtain ⟨i, hi, rfl, hB, hne⟩ := hrel
        have hOw := Lib.hid (hOB.out.below hB.out)
        have q0 : wr.cell? ⟨gw, 4, none⟩ = some (.slice mA ls.length mc) := hOw.out.blk.cell 4
        by_cases hil : i < ls.length
        · have hil' : (i : Int) < ls.length := by omega
          obtain ⟨ad, c, b, c', e, hcell, hl70, hrd⟩ := hOw.out.may.at_ hil
          injection e with e1 e2 e3
          subst e1 e3
          have hall := Lib.hid (all_callsG (w := wr) (gl := gl) (B := 70) (D := D) (fun W hW => hRL.out W (hB.out.trans (hW.mono hB.out.size))) hD5.out (by omega) (.slice (some ⟨b, 0, none⟩) 70 c') (ls[i]'hil) hrd (by rw [hl70]; omega))
          by_cases heq : ls[i]'hil = (List.range 70).map D
          · rw [decide_eq_true heq] at hall
            rw [heq] at hrd hl70
            obtain ⟨DL, hDL⟩ : ∃ DL, Hid ((List.range 70).map D = DL) := ⟨_, Lib.hid rfl⟩
            rw [hDL.out] at hrd hl70
            have hrd := Lib.hid hrd
            have hl70 := Lib.hid hl70
            have hbadr : (ad.add i).block < wr.heap.size := World.block_lt_of_cell? wr _ hcell
            have hfinD : Hid (∀ wf gr bl cl bd cd bm b2, WM W0 wf g gw gl gr bl cl bd cd (freshK d3) none (.slice none 0 0) { newRl with L := DL } (.slice (some ⟨bm, 0, none⟩) 1 1) cv2 [DL] cs2 (fun k => k = b2 ∨ k = bm) → OpenTo W0 g gw D (.returned (.bool true)) wf) := Lib.hid fun wf gr bl cl bd cd bm b2 h => by
              rw [← hDL.out] at h
              exact ⟨rfl, gl, gr, bl, cl, bd, cd, d3, _, cv2, cs2, _, V', h, hpa.out, hhh.out, hf3.out.mono (by omega), hlcs.out, hp2.out⟩
            clear heq hne
            go_wp2_with fail
            refine hall.out.mono ?_
            rintro e w6 ⟨rfl, hb6⟩
            have hb6 := Lib.hid hb6
            go_wp2_with fail
            refine (RMake_calls w6).mono ?_
            rintro e w7 ⟨gr, bl, cl, bd, cd, rfl, hR7, hB7, m1, m2, m3⟩
            have hb7 := Lib.hid (hb6.out.trans (hB7.mono hb6.out.size))
            have hs6 := hb6.out.size
            have hs7 := hb7.out.size
            have hO7 := Lib.hid (hOw.out.below hb7.out)
            have q4 : w7.cell? ⟨gw, 4, none⟩ = some (.slice (some ad) ls.length mc) := hO7.out.blk.cell 4
            have hc7 : w7.cell? (ad.add i) = some (.slice (some ⟨b, 0, none⟩) 70 c') := (hb7.out.cell hbadr).trans hcell
            have hb7a : Below w7.heap.size w7 (w7.alloc (.cells #[] 9)) := (Below.refl _ _).alloc (Nat.le_refl _) _
            have q4b := (hO7.out.below hb7a).blk.cell 4
            have hc7b : (w7.alloc (.cells #[] 9)).cell? (ad.add i) = some (.slice (some ⟨b, 0, none⟩) 70 c') := (hb7a.cell (by omega)).trans hc7
            have n7 : gw ≠ w7.heap.size := Nat.ne_of_lt hO7.out.blk.lt
            have n7b : (ad.add i).block ≠ w7.heap.size := by omega
            have hrow := Lib.hid (own_empty w7 9)
            have hrd7 := Lib.hid ((hrd.out.below hb7.out).below hb7a)
            have hR7 := Lib.hid hR7
            clear hall hOw q0 hcell hB7 hrd
            go_wp2_with (at_builtin; refine stop_app rfl ?_)
            refine Stop.mk (wpList_app _ rfl rfl (us := DL.map str) (base := 0) Try.underlying42 hj hy0 hy1 hy2 rfl hrow.out rfl hrd7.out rfl (by intro u hu; obtain ⟨a, _, rfl⟩ := List.mem_map.1 hu; rfl) ?_ ?_ (Nat.zero_le _) ?_)
            · unfold maxLen; rw [List.length_map, hl70.out]; omega
            · rw [List.length_map, hl70.out]; omega
            intro v9 w9 hown hg hat
            obtain ⟨b1, k1, rfl, hk1, hrow9, hB9, nb1, _⟩ := clone_done rfl hown hg hat hl70.out
            have hR9 := hR7.out.below hB9
            have g0 : w9.cell? ⟨gr, 0, none⟩ = some (.slice (some ⟨bl, 0, none⟩) 70 cl) := hR9.blk.cell 0
            have f0 := hR9.blk.frozen 0
            have hR8 := Lib.hid (hR9.newL hrow9 hk1 hl70.out rfl)
            have hb9 := hb7.out.trans (hB9.mono hs7)
            have hb8 := Lib.hid (hb9.setCell (p := ⟨gr, 0, none⟩) (show wr.heap.size ≤ gr by omega) (.slice (some ⟨b1, 0, none⟩) 70 k1))
            have hg8 : Blk (w9.setCell ⟨gr, 0, none⟩ (.slice (some ⟨b1, 0, none⟩) 70 k1)) gw 75 #[.pointer (some ⟨g, 0, none⟩), c1, c2, c3, .slice (some ad) ls.length mc, cv2] := ((hO7.out.below hB9).blk).far (fun e => by have e : gw = gr := e; have := hO7.out.blk.lt; have := hOB.out.blk.lt; have := hB.out.size; omega) _
            have hgrw : gr ≠ gw := fun e => by have := hOB.out.blk.lt; have := hB.out.size; omega
            obtain ⟨w8, hw8⟩ : ∃ w8, w9.setCell ⟨gr, 0, none⟩ (.slice (some ⟨b1, 0, none⟩) 70 k1) = w8 := ⟨_, rfl⟩
            rw [hw8] at hR8 hb8 hg8
            have hs8 := hb8.out.size
            have hs97 := hB9.size
            clear hown hg hat hrow9 hB9 hR9 hb9 q4 hc7 q4b hc7b hrow hrd7
            go_wp2_with (with_reducible refine stop_store 62 ?_)
            clear hw8 g0 f0
            refine Stop.mk (wpList_store_mid rfl 62 _ _ rfl gw 1 #[.pointer (some ⟨gl, 0, none⟩), .pointer none, .pointer (some ⟨gr, 0, none⟩)] rfl rfl (fun j hj => ⟨by
              rw [hg8.cell]
              match j, hj with
              | 0, _ => rfl
              | 1, _ => rfl
              | 2, _ => rfl, hg8.frozen (1 + j)⟩) (by kernel_rfl) (by simp [Value.oneCell']) ?_)
            have hC10 : Chg (fun k => k = gw) w8 (((w8.setCell ⟨gw, 1, none⟩ (.pointer (some ⟨gl, 0, none⟩))).setCell ⟨gw, 2, none⟩ (.pointer none)).setCell ⟨gw, 3, none⟩ (.pointer (some ⟨gr, 0, none⟩))) := ((chg_set (w := w8) ⟨gw, 1, none⟩ _).setCell (p := ⟨gw, 2, none⟩) (fun _ => rfl) _).setCell (p := ⟨gw, 3, none⟩) (fun _ => rfl) _
            have hg10 := ((hg8.set_ 1 (.pointer (some ⟨gl, 0, none⟩))).set_ 2 (.pointer none)).set_ 3 (.pointer (some ⟨gr, 0, none⟩))
            have eset : w8.setCells gw 1 (#[Value.pointer (some ⟨gl, 0, none⟩), .pointer none, .pointer (some ⟨gr, 0, none⟩)] : Array Value).toList = (((w8.setCell ⟨gw, 1, none⟩ (.pointer (some ⟨gl, 0, none⟩))).setCell ⟨gw, 2, none⟩ (.pointer none)).setCell ⟨gw, 3, none⟩ (.pointer (some ⟨gr, 0, none⟩))) := rfl
            rw [eset]
            clear eset
            generalize (((w8.setCell ⟨gw, 1, none⟩ (.pointer (some ⟨gl, 0, none⟩))).setCell ⟨gw, 2, none⟩ (.pointer none)).setCell ⟨gw, 3, none⟩ (.pointer (some ⟨gr, 0, none⟩))) = w10 at *
            have hs10 := hC10.size
            have hR10 : Hid (RG w10 gr b1 k1 bd cd (.slice none 0 0) { newRl with L := DL }) := Lib.hid (hR8.out.chg hC10 (fun k hk e => by
              subst e
              have := hOB.out.blk.lt
              have := hB.out.size
              rcases hk with e | e | e | e
              · omega
              · omega
              · omega
              · simp [Value.ownBlock] at e))
            have hb10a : Below w10.heap.size w10 (w10.alloc (.cells #[] 9)) := (Below.refl _ _).alloc (Nat.le_refl _) _
            have q0 : w10.cell? ⟨gr, 0, none⟩ = some (.slice (some ⟨b1, 0, none⟩) 70 k1) := hR10.out.blk.cell 0
            have q0b := (hR10.out.below hb10a).blk.cell 0
            have n10 : gr ≠ w10.heap.size := Nat.ne_of_lt hR10.out.blk.lt
            have hrow := Lib.hid (own_empty w10 9)
            have hrdA := hR10.out.rdL
            rw [show ({ newRl with L := DL } : Rl).L.length = 70 from hl70.out] at hrdA
            have hrdA : Hid (Rd (w10.alloc (.cells #[] 9)) (.slice (some ⟨b1, 0, none⟩) 70 k1) (DL.map str)) := Lib.hid (hrdA.below hb10a)
            have hg10 := Lib.hid hg10
            have hC10 := Lib.hid hC10
            clear hg8
            go_wp2_with (at_builtin; refine stop_app rfl ?_)
            refine Stop.mk (wpList_app _ rfl rfl (us := DL.map str) (base := 0) Try.underlying42 hj hy0 hy1 hy2 rfl hrow.out rfl hrdA.out rfl (by intro u hu; obtain ⟨a, _, rfl⟩ := List.mem_map.1 hu; rfl) ?_ ?_ (Nat.zero_le _) ?_)
            · unfold maxLen; rw [List.length_map, hl70.out]; omega
            · rw [List.length_map, hl70.out]; omega
            intro v11 w11 hown hg hat
            obtain ⟨b2, k2, rfl, hk2, hrow11, hB11, nb2, lb2⟩ := clone_done rfl hown hg hat hl70.out
            have hg11 := (hB11.block _ hg10.out.lt).trans hg10.out
            have hs11 := hB11.size
            have g4 : w11.cell? ⟨gw, 4, none⟩ = some (.slice (some ad) ls.length mc) := Blk.cell hg11 4
            have f4 : w11.frozen? ⟨gw, 4, none⟩ = false := Blk.frozen hg11 4
            have n11 : gw ≠ w11.heap.size := Nat.ne_of_lt (Blk.lt hg11)
            have hg12 : Blk (w11.alloc (.cells #[.slice (some ⟨b2, 0, none⟩) 70 k2] 42)) gw 75 _ := Blk.alloc hg11 _
            have g4b : (w11.alloc (.cells #[.slice (some ⟨b2, 0, none⟩) 70 k2] 42)).cell? ⟨gw, 4, none⟩ = some (.slice (some ad) ls.length mc) := hg12.cell 4
            have f4b : (w11.alloc (.cells #[.slice (some ⟨b2, 0, none⟩) 70 k2] 42)).frozen? ⟨gw, 4, none⟩ = false := hg12.frozen 4
            have hCf : Chg (fun k => k = gw) w8 ((w11.alloc (.cells #[.slice (some ⟨b2, 0, none⟩) 70 k2] 42)).setCell ⟨gw, 4, none⟩ (.slice (some ⟨w11.heap.size, 0, none⟩) 1 1)) := ((hC10.out.trans ((Chg.of_below hB11).mono (fun _ _ h => h))).alloc _).setCell (p := ⟨gw, 4, none⟩) (fun _ => rfl) _
            have hrowf : RowB ((w11.alloc (.cells #[.slice (some ⟨b2, 0, none⟩) 70 k2] 42)).setCell ⟨gw, 4, none⟩ (.slice (some ⟨w11.heap.size, 0, none⟩) 1 1)) 9 b2 (DL.map str) := by
              obtain ⟨sp, hbb⟩ := hrow11
              exact ⟨sp, (hbb.alloc _).far (fun e => by have e : b2 = gw := e; have := hOB.out.blk.lt; have := hB.out.size; omega) _⟩
            have hbm : Blk ((w11.alloc (.cells #[.slice (some ⟨b2, 0, none⟩) 70 k2] 42)).setCell ⟨gw, 4, none⟩ (.slice (some ⟨w11.heap.size, 0, none⟩) 1 1)) w11.heap.size 42 #[.slice (some ⟨b2, 0, none⟩) 70 k2] := (Blk.new w11 _ _).far (fun e => n11 (by have e : w11.heap.size = gw := e; exact e.symm)) _
            have hWM := (hOB.out.below hB.out).found hb8.out hR8.out (by omega) (by omega) (by omega) hCf (hg12.set_ 4 (.slice (some ⟨w11.heap.size, 0, none⟩) 1 1)) hrowf hk2 hl70.out hbm (by omega) (by omega)
            have hfin := Lib.hid (hfinD.out _ _ _ _ _ _ _ _ hWM)
            clear hown hg hat hrow11 hB11 hCf hrowf hbm hWM hrow hrdA hR10 hC10 q0 q0b hb8 hR8 hg11 hg12 hfinD
            go_wp2
            go_ret
            exact hfin.out
          · rw [decide_eq_false heq] at hall
            have hne2 : Hid (∀ j, j < i + 1 → ls[j]? ≠ some ((List.range 70).map D)) := Lib.hid fun j hj => by
              by_cases e : j = i
              · subst e
                rw [List.getElem?_eq_getElem hil]
                exact fun e => heq (Option.some.inj e)
              · exact hne.out j (by omega)
            clear hOw hrd hne heq hl70
            go_wp2_with fail
            refine hall.out.mono ?_
            rintro e w6 ⟨rfl, hb6⟩
            have hb7 := Lib.hid (hB.out.trans (hb6.mono hB.out.size))
            clear hb6 hall hB
            go_wp2
            go_roundw
            case rel => exact ⟨i + 1, by omega, by go_num, hb7, hne2⟩
            case measure => simp [RowKit.intOf]; omega
        · obtain ⟨j, hj, hje⟩ := List.getElem_of_mem hDh.out
          exact absurd (by rw [List.getElem?_eq_getElem hj, hje]) (hne.out j (by omega))
end Go.Proofs.Ytlfbfmeppcicnaa
namespace Go.Proofs.Ytlfbfmeppcicnaa
open Go.RowKit
def dList (V : Nat → List UInt8) : List (List UInt8) := (List.range 70).map fun n => V (65 + n)
def WInv (W0 : World) (g gw : Nat) (i : Nat) (w : World) : Prop := ∃ gl gr bl cl bd cd x ot nv r mv cv cs Y V, WM W0 w g gw gl gr bl cl bd cd x ot nv r mv cv [dList V] cs Y ∧ PA x V ∧ Tie x V (ot.map Prod.snd) r ∧ Fit 135 (1300 * (i + 1)) x.d ∧ 0 ≤ x.pn ∧ x.pn ≤ (i : Int) ∧ 0 ≤ r.sy ∧ r.sy ≤ (i : Int) ∧ cs.length ≤ 20 ∧ ∀ c ∈ cs, c.p.length ≤ 100
section
variable {W0 w w' : World} {g gw gl gr bl cl bd cd : Nat} {x x' : Lk} {ot ot' : Option (Nat × Tk)} {nv nv' : Value} {r r' : Rl} {mv cv c1 c2 c3 : Value} {ls : List (List (List UInt8))} {cs : List CutV} {X Y : Nat → Prop} {d d' : Dk} {V D L : Nat → List UInt8} {M : Nat}
theorem dList_home (h : HomeOk 135 V D) : dList V = (List.range 70).map D := List.map_congr_left fun n hn => h.2 n (List.mem_range.1 hn)
theorem Tie.listP (h : Tie x V (ot.map Prod.snd) r) (hl : r.L.length = 70) : r.L = (List.range 70).map (datP x V) := list_getD70 r.L [] _ hl fun m hm => h.L m hm
theorem Tie.found (hh : HomeOk 135 V D) : Tie (freshK d) V ((none : Option (Nat × Tk)).map Prod.snd) { newRl with L := (List.range 70).map D } :=
  ⟨fun n hn => by
    show ((List.range 70).map D).getD n [] = V (65 + n)
    rw [getD_mapR _ _ _ _ hn]
    exact (hh.2 n hn).symm, fun n hn => getD_repl _ _ _ _ hn, rfl, rfl, fun _ => rfl, fun t e => (by cases e)⟩
/-- New blocks become the caller's. -/
theorem WM.more (h : WM W0 w g gw gl gr bl cl bd cd x ot nv r mv cv ls cs Y) (hb : Below w.heap.size w w') {Y' : Nat → Prop} (h1 : ∀ k, Y k → Y' k) (h2 : ∀ k, Y' k → Y k ∨ (w.heap.size ≤ k ∧ k < w'.heap.size)) : WM W0 w' g gw gl gr bl cl bd cd x ot nv r mv cv ls cs Y' := by
  have hg := h.blk.lt
  refine ⟨h.pm.own (Z := fun _ => False) (Chg.of_below hb) (fun _ h => h.elim) (fun _ _ _ h => h) (fun _ _ _ h => h) (fun k hk => ?_), (hb.block _ h.blk.lt).trans h.blk, (h.may.keep (fun k hk => hb.block k (h.pm.xl k (.inr hk)))).mono h1, h.cuts, h.hw.1, fun hy => ?_, fun k hk => ?_⟩
  · rcases hk with hk | hk
    · exact .inl (.inl hk)
    · exact (h2 k hk).imp .inr id
  · rcases h2 gw hy with e | ⟨e, _⟩
    · exact h.hw.2.1 e
    · omega
  · rcases h2 k hk with e | ⟨e, _⟩
    · exact h.hw.2.2 k e
    · exact Nat.le_trans h.pm.bel.size e
/-- A row that is kept: its block. -/
def RowK (w : World) (Y : Nat → Prop) (v : Value) (l : List (List UInt8)) : Prop := ∃ b c, v = .slice (some ⟨b, 0, none⟩) 70 c ∧ 70 ≤ c ∧ l.length = 70 ∧ RowB w 9 b (l.map str) ∧ Y b
theorem RowK.keep {v : Value} {l : List (List UInt8)} (h : RowK w Y v l) (hk : KeepX Y w w') : RowK w' Y v l := by
  obtain ⟨b, c, e, h1, h2, ⟨sp, hb⟩, hy⟩ := h
  exact ⟨b, c, e, h1, h2, ⟨sp, (hk b hy).trans hb⟩, hy⟩
/-- The states that may be: one alone, in a new row. -/
theorem MayR.one {v : Value} {l : List (List UInt8)} (h : RowK w Y v l) {bm : Nat} (hbm : Blk w bm 42 #[v]) (hy : Y bm) : MayR w Y (.slice (some ⟨bm, 0, none⟩) 1 1) [l] := by
  refine ⟨[v], ⟨rfl, .inr ⟨bm, 1, #[v], rfl, Nat.zero_le _, hbm, Nat.le_refl _, by unfold maxLen; omega, rfl, rfl⟩⟩, rfl, fun k hk => by have e : bm = k := Option.some.inj hk; exact e ▸ hy, fun i u l2 hu hl => ?_⟩
  cases i with
  | zero =>
    have e1 : v = u := Option.some.inj hu
    have e2 : l = l2 := Option.some.inj hl
    subst e1 e2
    exact h
  | succ i =>
    have hu : ([] : List Value)[i]? = some u := hu
    simp at hu
/-- One more behind. -/
theorem MayR.app {v' : Value} {ls : List (List (List UInt8))} {u : Value} {l : List (List UInt8)} {us : List Value} {Y' : Nat → Prop} (hu : us.length = ls.length) (hown : w'.ownsRow 0 42 1 v' (ls.length + 1) (us ++ [u])) (hel : ∀ (i : Nat) u l, us[i]? = some u → ls[i]? = some l → RowK w' Y' u l) (hl : RowK w' Y' u l) (hy : ∀ k, v'.ownBlock = some k → Y' k) : MayR w' Y' v' (ls ++ [l]) := by
  refine ⟨us ++ [u], by rw [List.length_append]; exact hown, by rw [List.length_append, List.length_append, hu]; rfl, hy, fun i u2 l2 h1 h2 => ?_⟩
  rcases Nat.lt_or_ge i us.length with h | h
  · rw [List.getElem?_append_left h] at h1
    rw [List.getElem?_append_left (by omega)] at h2
    exact hel i u2 l2 h1 h2
  · rw [List.getElem?_append_right h] at h1
    rw [List.getElem?_append_right (by omega), ← hu] at h2
    have e0 : i - us.length = 0 := by
      rcases Nat.eq_zero_or_pos (i - us.length) with e | e
      · exact e
      · rw [List.getElem?_eq_none (show [u].length ≤ i - us.length from e)] at h1; cases h1
    rw [e0] at h1 h2
    have e1 : u = u2 := Option.some.inj h1
    have e2 : l = l2 := Option.some.inj h2
    subst e1 e2
    exact hl
theorem Try.info_ss : (Try.prog.info? 42).map (fun i => (i.zero, i.size, i.bytes)) = some (some (.slice none 0 0), 1, 24) := by kernel_rfl
theorem WD.set3 (h : WD W0 w g gw d c1 c2 c3 mv cv ls cs Y) (u : Value) : WD W0 (w.setCell ⟨gw, 3, none⟩ u) g gw d c1 c2 u mv cv ls cs Y := by
  have hch : Chg (fun k => k = gw) w (w.setCell ⟨gw, 3, none⟩ u) := chg_set ⟨gw, 3, none⟩ _
  refine ⟨h.dg.own hch (fun k hk => ⟨.inl hk, hk ▸ h.hw.1⟩) (fun k cs hb hk => by subst hk; exact absurd rfl (hb.ne_ h.blk (by decide))) (fun k cs hb hk => by subst hk; exact absurd rfl (hb.ne_ h.blk (by decide))) (fun k hk => .inl hk), h.blk.set_ 3 _, h.may.keep (fun k hk => ?_), h.cuts, h.hw⟩
  exact Below.heap_setCell w ⟨gw, 3, none⟩ u k (fun e => h.hw.2.1 (by have e : k = gw := e; exact e ▸ hk))
/-- One state more that may be. -/
theorem WD.app (h : WD W0 w g gw d c1 c2 c3 mv cv ls cs Y) {us : List Value} (hus : w.ownsRow 0 42 1 mv ls.length us) (hul : us.length = ls.length) (hmy : ∀ k, mv.ownBlock = some k → Y k) (hel : ∀ (i : Nat) u l, us[i]? = some u → ls[i]? = some l → RowK w Y u l) {u v' : Value} {l : List (List UInt8)} (hl : RowK w Y u l) {ob : Obj} (hown : w'.ownsRow 0 42 1 v' (ls.length + 1) (us ++ [u])) (hg : (w.alloc ob).grownBy w' mv.ownBlock) (hat : v'.ownBlock = mv.ownBlock ∨ v'.ownBlock = some (w.alloc ob).heap.size) :
    WD W0 (w'.setCell ⟨gw, 4, none⟩ v') g gw d c1 c2 c3 v' cv (ls ++ [l]) cs (fun k => Y k ∨ v'.ownBlock = some k) ∧ Blk w' gw 75 #[.pointer (some ⟨g, 0, none⟩), c1, c2, c3, mv, cv] := by
  have hc : Chg (fun k => mv.ownBlock = some k) w w' := ((Chg.refl _ w).alloc ob).grown hg (fun k hk _ => hk)
  have hgw : mv.ownBlock ≠ some gw := fun e => h.hw.2.1 (hmy gw e)
  have hb : Blk w' gw 75 #[.pointer (some ⟨g, 0, none⟩), c1, c2, c3, mv, cv] := h.blk.chg hc hgw
  have hch : Chg (fun k => k = gw) w' (w'.setCell ⟨gw, 4, none⟩ v') := chg_set ⟨gw, 4, none⟩ _
  have hlt : w.heap.size < w'.heap.size := by
    have := hg.size
    rw [World.size_alloc] at this
    omega
  have hv : ∀ k, v'.ownBlock = some k → Y k ∨ (w.heap.size ≤ k ∧ k < w'.heap.size) := fun k hk => by
    rcases hat with e | e
    · exact .inl (hmy k (e ▸ hk))
    · refine .inr ⟨?_, ?_⟩
      · rw [hk] at e
        have e : k = (w.alloc ob).heap.size := Option.some.inj e
        rw [World.size_alloc] at e
        omega
      · obtain ⟨cs2, hb2⟩ := own_kindL hown hk
        exact hb2.lt
  have hvg : v'.ownBlock ≠ some gw := fun e => by
    rcases hv gw e with h1 | ⟨h1, _⟩
    · exact h.hw.2.1 h1
    · have := h.blk.lt; omega
  have hd1 : DG W0 w' g 135 d (fun k => k = gw ∨ Y k ∨ v'.ownBlock = some k) := h.dg.own hc (fun k hk => ⟨.inr (hmy k hk), h.hw.2.2 k (hmy k hk)⟩) (fun k cs hb hk => by
    obtain ⟨cs2, hb2⟩ := own_kindL hus hk
    exact absurd rfl (hb.ne_ hb2 (by decide))) (fun k cs hb hk => by
    obtain ⟨cs2, hb2⟩ := own_kindL hus hk
    exact absurd rfl (hb.ne_ hb2 (by decide))) (fun k hk => by
    rcases hk with e | e | e
    · exact .inl (.inl e)
    · exact .inl (.inr e)
    · exact (hv k e).imp .inr id)
  have hd2 : DG W0 (w'.setCell ⟨gw, 4, none⟩ v') g 135 d (fun k => k = gw ∨ Y k ∨ v'.ownBlock = some k) := hd1.own hch (fun k hk => ⟨.inl hk, hk ▸ h.hw.1⟩) (fun k cs hb2 hk => by subst hk; exact absurd rfl (hb2.ne_ hb (by decide))) (fun k cs hb2 hk => by subst hk; exact absurd rfl (hb2.ne_ hb (by decide))) (fun k hk => .inl hk)
  have hrow : ∀ (u : Value) (l : List (List UInt8)), RowK w Y u l → RowK (w'.setCell ⟨gw, 4, none⟩ v') (fun k => Y k ∨ v'.ownBlock = some k) u l := fun u l hr => by
    obtain ⟨b, c, e, h1, h2, ⟨sp, hb2⟩, hy⟩ := hr
    have hbm : mv.ownBlock ≠ some b := fun e => by
      obtain ⟨cs2, hb3⟩ := own_kindL hus e
      exact absurd rfl (hb3.ne_ hb2 (by decide))
    exact ⟨b, c, e, h1, h2, ⟨sp, (hb2.chg hc hbm).far (fun e => h.hw.2.1 (by have e : b = gw := e; exact e ▸ hy)) _⟩, .inl hy⟩
  have hmay : MayR (w'.setCell ⟨gw, 4, none⟩ v') (fun k => Y k ∨ v'.ownBlock = some k) v' (ls ++ [l]) := MayR.app (us := us) (u := u) (l := l) (ls := ls) hul (own_chgL hown hch (fun k hk e => hvg (by have e : k = gw := e; exact e ▸ hk))) (fun i u l h1 h2 => hrow u l (hel i u l h1 h2)) (hrow u l hl) (fun k hk => .inr hk)
  refine ⟨⟨hd2, hb.set_ 4 _, hmay, h.cuts, h.hw.1, fun hy => hy.elim h.hw.2.1 hvg, fun k hk => ?_⟩, hb⟩
  rcases hk with e | e
  · exact h.hw.2.2 k e
  · rcases hv k e with e | ⟨e, _⟩
    · exact h.hw.2.2 k e
    · exact Nat.le_trans h.dg.bel.size e
end
/-- What a step of the world leaves. -/
def WStep (W0 : World) (g gw : Nat) (i : Nat) (e : Ending) (w' : World) : Prop := e = .returned (.bool true) ∧ WInv W0 g gw (i + 1) w'
set_option maxRecDepth 100000 in
set_option maxHeartbeats 16000000 in
theorem wstep_calls {W0 w : World} {g gw i : Nat} (h : WInv W0 g gw i w) (hi : i ≤ 1000) (a : ActV) (ha : a.ok W0) (hb : a.b.length ≤ 64) :
    Calls Try.prog 39 #[.pointer (some ⟨gw, 0, none⟩), .agg a.row.toArray] w (WStep W0 g gw i) := by
  obtain ⟨gl, gr, bl, cl, bd, cd, x, ot, nv, r, mv, cv, cs, Y, V, h, hp, ht, hf, p1, p2, p3, p4, hcs, hps⟩ := h
  obtain ⟨i2, hj, hy0, hy1, hy2⟩ := info_parts Try.info_str
  obtain ⟨w1, hw1⟩ : ∃ w1, w.alloc (.cells a.row.toArray 65) = w1 := ⟨_, rfl⟩
  have hB1 : Below w.heap.size w w1 := by rw [← hw1]; exact (Below.refl _ _).alloc (Nat.le_refl _) _
  have hk1 : Blk w1 w.heap.size 65 a.row.toArray := by rw [← hw1]; exact Blk.new _ _ _
  have h1 := Lib.hid (h.below hB1)
  have hld : Hid (∀ W, Blk W w.heap.size 65 a.row.toArray → (Instr.loadAt 65 (.pointer (some ⟨w.heap.size, 0, none⟩))).run Try.prog W = .ok (.agg a.row.toArray) W) := Lib.hid fun W hk => run_loadAt_cells W _ 65 a.row _ (fun j u hu => by
    rw [addr_add_at, Nat.zero_add, hk.cell]
    simpa using hu) Try.underlying65 rfl (by kernel_rfl)
  have hact := Lib.hid (fun (W : World) (Y' : Nat → Prop) (hW : WM W0 W g gw gl gr bl cl bd cd x ot nv r mv cv [dList V] cs Y') => act_calls hW hp ht hf (by omega) ⟨p1, by omega⟩ ⟨p3, by omega⟩ a ha hb)
  have hL70 := Lib.hid h.pm.rg.ll.1
  have hlist := Lib.hid (ht.listP h.pm.rg.ll.1)
  have q3 : w1.cell? ⟨gw, 3, none⟩ = some (.pointer (some ⟨gr, 0, none⟩)) := h1.out.blk.cell 3
  have g6 : w1.cell? ⟨gr, 6, none⟩ = some (.int .i64 r.sy) := h1.out.pm.rg.blk.cell 6
  have g0 : w1.cell? ⟨gr, 0, none⟩ = some (.slice (some ⟨bl, 0, none⟩) 70 cl) := h1.out.pm.rg.blk.cell 0
  have hB1a : Below w1.heap.size w1 (w1.alloc (.cells #[] 9)) := (Below.refl _ _).alloc (Nat.le_refl _) _
  have q3b := (h1.out.below hB1a).blk.cell 3
  have g0b := (h1.out.below hB1a).pm.rg.blk.cell 0
  have n1 : gw ≠ w1.heap.size := Nat.ne_of_lt h1.out.blk.lt
  have n2 : gr ≠ w1.heap.size := Nat.ne_of_lt h1.out.pm.rg.blk.lt
  have hrow := Lib.hid (own_empty w1 9)
  have hrd := h1.out.pm.rg.rdL
  rw [hL70.out] at hrd
  have hrd := Lib.hid (hrd.below hB1a)
  have hk1 := Lib.hid hk1
  have hB1 := Lib.hid hB1
  obtain ⟨A, hA⟩ : ∃ A, Hid (a.row.toArray = A) := ⟨_, Lib.hid rfl⟩
  rw [hA.out] at hk1 hld hact hw1 ⊢
  have hps := Lib.hid hps
  clear h hp ht ha hb hf
  go_enter Try.func39, Try.ntmps39
  go_wp2_with (at_builtin; refine stop_app rfl ?_)
  refine Stop.mk (wpList_app _ rfl rfl (us := r.L.map str) (base := 0) Try.underlying42 hj hy0 hy1 hy2 rfl hrow.out rfl hrd.out rfl (by intro u hu; obtain ⟨a, _, rfl⟩ := List.mem_map.1 hu; rfl) ?_ ?_ (Nat.zero_le _) ?_)
  · unfold maxLen; rw [List.length_map, hL70.out]; omega
  · rw [List.length_map, hL70.out]; omega
  intro v9 w9 hown hg hat
  obtain ⟨b1, k1, rfl, hk70, hrow9, hB9, nb1, lb1⟩ := clone_done rfl hown hg hat hL70.out
  have h9 := Lib.hid (h1.out.more (Y' := fun k => Y k ∨ k = b1) hB9 (fun k hk => .inl hk) (fun k hk => hk.imp id (fun e => by subst e; exact ⟨nb1, lb1⟩)))
  have hrk : Hid (RowK w9 (fun k => Y k ∨ k = b1) (.slice (some ⟨b1, 0, none⟩) 70 k1) r.L) := Lib.hid ⟨b1, k1, rfl, hk70, hL70.out, hrow9, .inr rfl⟩
  have hk9 : Hid (Blk w9 w.heap.size 65 A) := Lib.hid ((hB9.block _ hk1.out.lt).trans hk1.out)
  have q3 : w9.cell? ⟨gw, 3, none⟩ = some (.pointer (some ⟨gr, 0, none⟩)) := h9.out.blk.cell 3
  clear hown hg hat hrow9 hB9 hrow hrd q3b g0b g0 g6 h1 hk1 hw1
  go_wp2_with fail
  refine (Twin_calls w9 h9.out.pm.rg).mono ?_
  rintro e w10 ⟨gt, rfl, hB10⟩
  have h10 := Lib.hid (h9.out.below hB10)
  have hrk10 := Lib.hid (hrk.out.keep (fun k hk => hB10.block k (h9.out.pm.xl k (.inr hk))))
  have hk10 : Hid (Blk w10 w.heap.size 65 A) := Lib.hid ((hB10.block _ hk9.out.lt).trans hk9.out)
  have hldw := hld.out w10 hk10.out
  clear h9 hrk hk9 hB10 q3
  go_wp2_with (with_reducible refine stop_load 65 ?_)
  refine Stop.mk (wpList_load_cells rfl rfl rfl hldw ?_)
  clear hldw hld
  have hact10 := Lib.hid (hact.out w10 _ h10.out)
  clear hact
  go_wp2_with fail
  refine hact10.out.mono ?_
  rintro e w11 ⟨b, x', ot', nv', r', rfl, h11, ⟨_, hsp⟩, hkY⟩
  have hrk11 := Lib.hid (hrk10.out.keep hkY)
  have c0 : w11.cell? ⟨gw, 0, none⟩ = some (.pointer (some ⟨g, 0, none⟩)) := h11.blk.cell 0
  have hOf := Lib.hid (pOff h11.pm)
  have h11 := Lib.hid h11
  clear hact10 h10 hrk10 hk10 hkY
  rcases hsp with hcq | ⟨rfl, hf', q1, q2, V', hp', ht', hs'⟩
  · rw [hcq.off] at hOf
    have hxl : x'.d.l.length = 135 := hcq.dl
    have hwd := h11.out.wd hxl
    obtain ⟨us, hus, hul, hmy, hel⟩ := h11.out.may
    obtain ⟨mA, mc, rfl⟩ := own_shape hus
    obtain ⟨D, hDm, hcD⟩ : ∃ D, (List.range 70).map D ∈ [dList V, r.L] ∧ Cq 135 (fun L => Rep 135 L D) x'.d := by
      obtain ⟨L, hL, hl⟩ := hcq.at_
      rcases hL with hL | hL
      · exact ⟨_, List.mem_cons_self, hcq.dl, hcq.off, hcq.st, hcq.wl, L, hL, hl⟩
      · exact ⟨datP x V, by rw [← hlist.out]; simp, hcq.dl, hcq.off, hcq.st, hcq.wl, L, hL, hl⟩
    have c4 : w11.cell? ⟨gw, 4, none⟩ = some (.slice mA 1 mc) := h11.out.blk.cell 4
    obtain ⟨i5, hk5, hz0, hz1, hz2⟩ := info_parts Try.info_ss
    have hrow := Lib.hid (World.ownsRow.alloc hus (.cells #[.slice (some ⟨b1, 0, none⟩) 70 k1] 42))
    have hrd := Lib.hid (show Rd (w11.alloc (.cells #[.slice (some ⟨b1, 0, none⟩) 70 k1] 42)) (.slice (some ⟨w11.heap.size, 0, none⟩) 1 1) [.slice (some ⟨b1, 0, none⟩) 70 k1] from rd_new w11 [.slice (some ⟨b1, 0, none⟩) 70 k1] 42 1 rfl)
    have hwd := Lib.hid hwd
    have hush := Lib.hid hus
    have hulh := Lib.hid hul
    have hmyh := Lib.hid hmy
    have helh := Lib.hid hel
    have hDm := Lib.hid hDm
    have hcD := Lib.hid hcD
    clear hus hul hmy hel h11 hcq hlist
    go_wp2_with fail
    refine hOf.out.mono ?_
    rintro e w12 ⟨rfl, rfl⟩
    clear hOf c0
    go_wp2_with (at_builtin; refine stop_app rfl ?_)
    refine Stop.mk (wpList_app _ rfl rfl (us := [.slice (some ⟨b1, 0, none⟩) 70 k1]) (base := 0) Try.underlying73 hk5 hz0 hz1 hz2 rfl hrow.out rfl hrd.out rfl (by intro u hu; simp at hu; subst hu; rfl) ?_ ?_ (Nat.zero_le _) ?_)
    · unfold maxLen; simp only [List.length_cons, List.length_nil]; omega
    · simp only [List.length_cons, List.length_nil]; omega
    intro v13 w13 hown hg hat
    obtain ⟨hwd13, hb13⟩ := hwd.out.app hush.out hulh.out hmyh.out helh.out hrk11.out hown hg hat
    obtain ⟨A13, c13, rfl⟩ := own_shape hown
    have d4 : w13.cell? ⟨gw, 4, none⟩ = some (.slice mA 1 mc) := hb13.cell 4
    have f4 := hb13.frozen 4
    have f3 := hwd13.blk.frozen 3
    have d3 := hwd13.blk.cell 3
    have d3b := hb13.cell 3
    have f3b := hb13.frozen 3
    have hwd14 := hwd13.set3 (.pointer (some ⟨gt, 0, none⟩))
    have hOS : OSt W0 g gw (.pointer (some ⟨gl, 0, none⟩)) (tptr ot') (.pointer (some ⟨gt, 0, none⟩)) _ [dList V, r.L] _ D 0 _ := ⟨x'.d, cv, cs, by omega, hwd14, hcD.out, hps.out⟩
    have hopen := Lib.hid (open_calls hOS hDm.out (by simp))
    clear hown hg hat hb13 hwd13 hwd14 hOS hwd hush hulh hmyh helh hrow hrd c4 hrk11
    go_wp2_with fail
    refine hopen.out.mono ?_
    rintro e w15 ⟨rfl, gl5, gr5, bl5, cl5, bd5, cd5, d5, mv5, cv5, cs5, Y5, V5, h5, hp5, hh5, hf5, hl5, hk5'⟩
    have hfin : Hid (WStep W0 g gw i (.returned (.bool true)) w15) := Lib.hid ⟨rfl, gl5, gr5, bl5, cl5, bd5, cd5, _, _, _, _, _, _, cs5, Y5, V5, by rw [dList_home hh5]; exact h5, hp5, Tie.found hh5, hf5.mono (by omega), Int.le_refl _, by show (0 : Int) ≤ _; omega, Int.le_refl _, by show (0 : Int) ≤ _; omega, hl5, hk5'⟩
    clear hopen h5 hp5 hh5 hf5
    go_wp2
    go_ret
    exact hfin.out
  · have hoff : x'.d.off = false := hp'.pq.of
    rw [hoff] at hOf
    have c3 : w11.cell? ⟨gw, 3, none⟩ = some (.pointer (some ⟨gr, 0, none⟩)) := h11.out.blk.cell 3
    have g6 : w11.cell? ⟨gr, 6, none⟩ = some (.int .i64 r'.sy) := h11.out.pm.rg.blk.cell 6
    rw [Bool.true_or]
    go_wp2_with fail
    refine hOf.out.mono ?_
    rintro e w12 ⟨rfl, rfl⟩
    clear hOf c0
    rcases hs' with ⟨hs', rfl⟩ | ⟨hs', hhome⟩
    · have hfin : Hid (WStep W0 g gw i (.returned (.bool true)) w11) := Lib.hid ⟨rfl, gl, gr, bl, cl, bd, cd, x', ot', nv', r', _, cv, cs, _, V', h11.out, hp', ht', hf'.mono (by omega), q1, by omega, by omega, by omega, hcs, hps.out⟩
      rw [hs'] at g6
      clear h11 hp' ht' hf' hrk11 hs'
      go_wp2
      go_ret
      exact hfin.out
    · have c4 := h11.out.blk.cell 4
      have n4 : gw ≠ w11.heap.size := Nat.ne_of_lt h11.out.blk.lt
      have hk4 : Blk (w11.alloc (.cells #[.slice (some ⟨b1, 0, none⟩) 70 k1] 42)) gw 75 _ := h11.out.blk.alloc _
      have c4b := hk4.cell 4
      have f4b := hk4.frozen 4
      have f4 := h11.out.blk.frozen 4
      have hWM : WM W0 ((w11.alloc (.cells #[.slice (some ⟨b1, 0, none⟩) 70 k1] 42)).setCell ⟨gw, 4, none⟩ (.slice (some ⟨w11.heap.size, 0, none⟩) 1 1)) g gw gl gr bl cl bd cd x' ot' nv' r' (.slice (some ⟨w11.heap.size, 0, none⟩) 1 1) cv [dList V'] cs (fun k => (Y k ∨ k = b1) ∨ k = w11.heap.size) := by
        have hch : Chg (fun k => k = gw) w11 ((w11.alloc (.cells #[.slice (some ⟨b1, 0, none⟩) 70 k1] 42)).setCell ⟨gw, 4, none⟩ (.slice (some ⟨w11.heap.size, 0, none⟩) 1 1)) := ((Chg.refl (fun k => k = gw) w11).alloc _).setCell (p := ⟨gw, 4, none⟩) (fun _ => rfl) _
        have hbm : Blk ((w11.alloc (.cells #[.slice (some ⟨b1, 0, none⟩) 70 k1] 42)).setCell ⟨gw, 4, none⟩ (.slice (some ⟨w11.heap.size, 0, none⟩) 1 1)) w11.heap.size 42 #[.slice (some ⟨b1, 0, none⟩) 70 k1] := (Blk.new w11 _ _).far (fun e => n4 (by have e : w11.heap.size = gw := e; exact e.symm)) _
        have hrk : RowK ((w11.alloc (.cells #[.slice (some ⟨b1, 0, none⟩) 70 k1] 42)).setCell ⟨gw, 4, none⟩ (.slice (some ⟨w11.heap.size, 0, none⟩) 1 1)) (fun k => (Y k ∨ k = b1) ∨ k = w11.heap.size) (.slice (some ⟨b1, 0, none⟩) 70 k1) r.L := by
          obtain ⟨b, c, e, y1, y2, ⟨sp, hb2⟩, hy⟩ := hrk11.out
          exact ⟨b, c, e, y1, y2, ⟨sp, (hb2.alloc _).far (fun e => h11.out.hw.2.1 (by have e : b = gw := e; exact e ▸ hy)) _⟩, .inl hy⟩
        have hdl : dList V' = r.L := by rw [dList_home hhome, hlist.out]
        rw [hdl]
        refine ⟨h11.out.pm.own hch (fun k hk => ⟨.inl hk, hk ▸ h11.out.hw.1⟩) (fun k cs hb hk => by subst hk; exact absurd rfl (hb.ne_ h11.out.blk (by decide))) (fun k cs hb hk => by subst hk; exact absurd rfl (hb.ne_ h11.out.blk (by decide))) (fun k hk => ?_), hk4.set_ 4 _, MayR.one hrk hbm (.inr rfl), h11.out.cuts, h11.out.hw.1, fun hy => ?_, fun k hk => ?_⟩
        · rcases hk with e | e | e
          · exact .inl (.inl e)
          · exact .inl (.inr e)
          · exact .inr (by subst e; exact ⟨Nat.le_refl _, hbm.lt⟩)
        · rcases hy with e | e
          · exact h11.out.hw.2.1 e
          · exact n4 e
        · rcases hk with e | e
          · exact h11.out.hw.2.2 k e
          · subst e; exact h11.out.pm.bel.size
      have hfin : Hid (WStep W0 g gw i (.returned (.bool true)) ((w11.alloc (.cells #[.slice (some ⟨b1, 0, none⟩) 70 k1] 42)).setCell ⟨gw, 4, none⟩ (.slice (some ⟨w11.heap.size, 0, none⟩) 1 1))) := Lib.hid ⟨rfl, gl, gr, bl, cl, bd, cd, x', ot', nv', r', _, cv, cs, _, V', hWM, hp', ht', hf'.mono (by omega), q1, by omega, by omega, by omega, hcs, hps.out⟩
      rw [hs'] at g6
      clear h11 hp' ht' hf' hrk11 hs' hWM hk4 hhome hlist
      go_wp2
      go_ret
      exact hfin.out
end Go.Proofs.Ytlfbfmeppcicnaa
namespace Go.Proofs.Ytlfbfmeppcicnaa
open Go.RowKit
section
variable {W0 w w' : World} {g gw gl gr bl cl bd cd : Nat} {x x' : Lk} {ot ot' : Option (Nat × Tk)} {nv nv' : Value} {r r' : Rl} {X : Nat → Prop}
theorem pArm (h : PM W0 w gl g x ot gr bl cl bd cd nv r X) (a : Int) (v : Value) (picks : List Int) (hv : Rd w v (ivs picks)) (hpl : picks.length ≤ 1000000000) :
    Calls Try.prog 30 #[.pointer (some ⟨g, 0, none⟩), .int .i64 a, v] w fun e w' => e = .returned (.tuple #[]) ∧ PM W0 w' gl g ⟨armD x.d a picks, x.wt, x.pn, x.op⟩ ot gr bl cl bd cd nv r X ∧ KeepX X w w' := by
  obtain ⟨S, F, ST, FT, h1, h2, h3, h4, h5⟩ := h.ex
  obtain ⟨Sd, h6, h7, h8⟩ := h1.onDisk
  refine (Arm_callsO w g x.d Sd h6 a v picks hv hpl).mono ?_
  rintro e w' ⟨rfl, hw⟩
  obtain ⟨S', F', g1, g2, g3, g4⟩ := h8 (armD x.d a picks) w' rfl hw
  refine ⟨rfl, h.log (S := S) (ST := ST) (ST' := ST) (FT' := FT) (fun k hk => hk.elim (fun h => h1.lt h) (h4 k)) h5 (g2.mono (fun k _ hk => .inl hk)) g1 (fun p hp => (h2 p hp).chgT g2 (fun k hk hs => h3 k hs hk) h1.not8) (fun k hk hT => ?_) (fun k hk => Nat.lt_of_lt_of_le (h4 k hk) g2.size) (fun k hk => ?_)⟩
  · rcases g3 k hk with e | e
    · exact h3 k e hT
    · have := h4 k hT; omega
  · rcases hk with hk | hk
    · rcases g3 k hk with e | e
      · exact .inl (.inl e)
      · exact .inr e
    · exact .inl (.inr hk)
end
/-- The world begins. -/
def Arm0 (W0 : World) (g gw : Nat) (e : Ending) (w' : World) : Prop := e = .returned (.tuple #[]) ∧ WInv W0 g gw 0 w'
theorem arm0_calls {W0 w : World} {g gw gl gr bl cl bd cd : Nat} {x : Lk} {nv mv cv : Value} {r : Rl} {cs : List CutV} {Y : Nat → Prop} {V : Nat → List UInt8} (h : WM W0 w g gw gl gr bl cl bd cd x none nv r mv cv [dList V] cs Y) (hl : LA 135 x V) (ht : Tie x V none r) (hpn : x.pn = 0) (hsy : r.sy = 0) (hcl : cs.length ≤ 20) (hp : ∀ c ∈ cs, c.p.length ≤ 100) :
    Calls Try.prog 38 #[.pointer (some ⟨gw, 0, none⟩)] w (Arm0 W0 g gw) := by
  rcases cs with _ | ⟨ct, cs⟩
  · obtain ⟨⟨A, c, e, _⟩, _, _⟩ := h.cuts
    have e : cv = .slice A 0 c := e
    subst e
    refine (arm_none w h.blk rfl).mono ?_
    rintro e w' ⟨rfl, rfl⟩
    exact ⟨rfl, gl, gr, bl, cl, bd, cd, x, none, nv, r, mv, _, [], Y, V, h, PA.of_la hl, ht, hl.vw.fit0.mono (by omega), by omega, by omega, by omega, by omega, hcl, hp⟩
  · have hok := (h.cuts.2.2 ct (List.mem_cons_self)).below h.pm.bel
    have hcw := h.cuts.below h.pm.bel
    have hd1 := h.pm.below (Below.refl _ w).drew
    refine (arm_some w (g := g) (cv := cv) (ct := ct) (cs := cs) (P := fun w' => PM W0 w' gl g ⟨armD x.d ct.n ct.p, x.wt, x.pn, x.op⟩ none gr bl cl bd cd nv r (fun k => k = gw ∨ Y k) ∧ KeepX (fun k => k = gw ∨ Y k) w w') h.blk rfl rfl hcw h.cuts (by simp at hcl; omega) ?_ ?_).mono ?_
    · refine (pArm hd1 ct.n ct.pv ct.p (hok.1.below (Below.refl _ _).drew) (by have := hp ct (List.mem_cons_self); omega)).mono ?_
      rintro e w2 ⟨rfl, g1, g2⟩
      exact ⟨rfl, g1, g2⟩
    · rintro w2 ⟨g1, g2⟩
      exact ⟨g2 gw (.inl rfl), h.cuts.below g1.bel⟩
    · rintro e w' ⟨rfl, w2, cv2, ⟨g1, g2⟩, rfl, hc2⟩
      have hb2 := g2.blk h.blk (.inl rfl)
      have hch : Chg (fun k => k = gw) w2 (w2.setCell ⟨gw, 5, none⟩ cv2) := chg_set ⟨gw, 5, none⟩ _
      refine ⟨rfl, gl, gr, bl, cl, bd, cd, _, none, nv, r, mv, cv2, cs, Y, V, ⟨g1.own hch (fun k hk => ⟨.inl hk, hk ▸ h.hw.1⟩) (fun k cs hb hk => by subst hk; exact absurd rfl (hb.ne_ hb2 (by decide))) (fun k cs hb hk => by subst hk; exact absurd rfl (hb.ne_ hb2 (by decide))) (fun k hk => .inl hk), hb2.set_ 5 _, (h.may.keep (fun k hk => g2 k (.inr hk))).keep (fun k hk => ?_), hc2, h.hw⟩, ⟨(Pq.of_vw hl.vw hl.st).arm _ _, hl.h0, hl.wl, hl.k63⟩, ⟨ht.L, ht.D, ht.pn, ht.op, ht.tn, ht.ts⟩, (hl.vw.fit0.arm _ _ (wf64K hok.2.2).2 (by have := hp ct (List.mem_cons_self); omega)).mono (by omega), by show (0 : Int) ≤ x.pn; omega, by show x.pn ≤ _; omega, by omega, by omega, by simp at hcl; omega, fun c hc => hp c (List.mem_cons_of_mem _ hc)⟩
      exact Below.heap_setCell w2 ⟨gw, 5, none⟩ cv2 k (fun e => h.hw.2.1 (by have e : k = gw := e; exact e ▸ hk))
set_option maxRecDepth 100000 in
set_option maxHeartbeats 16000000 in
theorem WalCrashes_calls (w : World) {x0 x1 : Value} {l : List ActV} {cs : List CutV} (xx0 : RdA w x0 l) (ll0 : l.length ≤ 9223372036854775807) (xx1 : RdC w x1 cs) (ll1 : cs.length ≤ 9223372036854775807) :
    Calls Try.prog 11 #[x0, x1] w fun e w' => e = .returned (.bool true) ∧ Below w.heap.size w w' := by
  obtain ⟨i2, hj, hy0, hy1, hy2⟩ := info_parts Try.info_str
  have hFewA := fun (W : World) (hB : Below w.heap.size w W) => Few_calls W x0 l (xx0.below hB) ll0
  obtain ⟨A0, c0, rfl⟩ := xx0.shape
  obtain ⟨⟨A1, c1, rfl, hc1⟩, _, _⟩ := id xx1
  have hx0 := Lib.hid xx0
  have hx1 := Lib.hid xx1
  have hc1 := Lib.hid hc1
  clear xx0 xx1
  obtain ⟨C, hC⟩ : ∃ C, Hid (cs.length = C) := ⟨_, Lib.hid rfl⟩
  rw [hC.out] at ll1 hx1 ⊢
  cases hf0 : fewB l
  · rw [hf0] at hFewA
    have hFew0 := Lib.hid hFewA
    clear hFewA hf0
    go_enter Try.func11, Try.ntmps11
    go_wp2_with fail
    refine (known_calls w).mono ?_
    rintro e w1 ⟨rfl, hB1⟩
    have hB1h := Lib.hid hB1
    clear hB1
    go_wp2_with fail
    refine (hFew0.out w1 hB1h.out).mono ?_
    rintro e w2 ⟨rfl, rfl⟩
    go_wp2
    go_ret
    exact ⟨rfl, hB1h.out⟩
  rw [hf0] at hFewA
  have hFew0 := Lib.hid hFewA
  have hl0 : l.length ≤ 150 := fewB_len hf0
  have hat0 := Lib.hid (fun k (hk : k < l.length) => fewB_at hf0 hk)
  clear hFewA hf0
  have hN : Hid (65 < 135 ∧ 135 ≤ 16000) := ⟨by omega, by omega⟩
  go_enter Try.func11, Try.ntmps11
  go_wp2_with fail
  refine (known_calls w).mono ?_
  rintro e w1 ⟨rfl, hB1⟩
  have hB1h := Lib.hid hB1
  clear hB1
  go_wp2_with fail
  refine (hFew0.out w1 hB1h.out).mono ?_
  rintro e w2 ⟨rfl, rfl⟩
  by_cases h20 : 20 < C
  · have h20' : (20 : Int) < (C : Int) := by omega
    go_wp2
    go_ret
    exact ⟨rfl, hB1h.out⟩
  have h20' : ¬ (20 : Int) < (C : Int) := by omega
  go_wp2
  go_loop [5] (fun iv => ∃ i : Nat, i ≤ C ∧ iv = .int .i64 (i : Int) ∧ Hid (∀ j (hj : j < cs.length), j < i → (cs[j]'hj).p.length ≤ 100)) (fun iv => C - (RowKit.intOf iv).toNat)
  case atStart => exact ⟨0, Nat.zero_le _, rfl, Lib.hid fun j _ h => by omega⟩
  case round =>
    obtain ⟨i, hi, rfl, hpk⟩ := hrel
    by_cases hic : i < C
    · have hic' : (i : Int) < (C : Int) := by omega
      have hicl : i < cs.length := by rw [hC.out]; exact hic
      obtain ⟨ad, rfl, z0, z1⟩ := (hx1.out.below hB1h.out).at_ hicl
      have hrp := (hx1.out.2.2 _ (List.getElem_mem hicl)).1
      obtain ⟨PA_, pc, hpv⟩ := hrp.shapeI
      rw [hpv, show (ivs (cs[i]'hicl).p).length = (cs[i]'hicl).p.length by simp [ivs]] at z1
      obtain ⟨pl, hpl⟩ : ∃ pl, Hid ((cs[i]'hicl).p.length = pl) := ⟨_, Lib.hid rfl⟩
      rw [hpl.out] at z1
      have hpm := (hx1.out.2.2 _ (List.getElem_mem hicl)).2.1
      rw [hpl.out] at hpm
      clear hrp hpv
      by_cases h100 : 100 < pl
      · have h100' : (100 : Int) < (pl : Int) := by omega
        go_wp2
        go_ret
        exact ⟨rfl, hB1h.out⟩
      · have h100' : ¬ (100 : Int) < (pl : Int) := by omega
        have hpk2 : Hid (∀ j (hj : j < cs.length), j < i + 1 → (cs[j]'hj).p.length ≤ 100) := Lib.hid fun j hj hji => by
          by_cases e : j = i
          · subst e
            rw [hpl.out]
            omega
          · exact hpk.out j hj (by omega)
        clear hpk hpl
        go_wp2
        go_round
        case rel => exact ⟨i + 1, by omega, by go_num, hpk2⟩
        case measure => simp [RowKit.intOf]; omega
    · obtain rfl : i = C := by omega
      have hcp : Hid (∀ c ∈ cs, c.p.length ≤ 100) := Lib.hid fun c hc => by
        obtain ⟨j, hj, rfl⟩ := List.getElem_of_mem hc
        exact hpk.out j hj (by rw [← hC.out]; exact hj)
      clear hpk hic
      go_wp2_with fail
      refine (cNew w1 135 (by omega) (by omega)).mono ?_
      rintro e w2 ⟨g, rfl, hd⟩
      have hF := Lib.hid (cFormat hd hN.out)
      clear hd
      go_wp2_with fail
      refine hF.out.mono ?_
      rintro e w3 ⟨d, gl, rfl, hl, _⟩
      have hl := Lib.hid hl
      clear hF
      go_wp2_with fail
      refine (RMake_calls w3).mono ?_
      rintro e w4 ⟨gr, bl, cl, bd, cd, rfl, hR, hB4, q1, q2, q3⟩
      have hP := Lib.hid (PM.make hl.out hB4 hR q1 q2 q3)
      have hgp : Hid (w1.heap.size ≤ w4.heap.size) := Lib.hid (Nat.le_trans hl.out.bel.size hB4.size)
      obtain ⟨w5, hw5⟩ : ∃ w5, w4.alloc (.cells #[.pointer (some ⟨g, 0, none⟩), .pointer (some ⟨gl, 0, none⟩), .pointer none, .pointer (some ⟨gr, 0, none⟩), .slice none 0 0, .slice A1 i c1] 75) = w5 := ⟨_, rfl⟩
      have hla := Lib.hid hl.out.la
      have hb5 : Blk w5 w4.heap.size 75 #[.pointer (some ⟨g, 0, none⟩), .pointer (some ⟨gl, 0, none⟩), .pointer none, .pointer (some ⟨gr, 0, none⟩), .slice none 0 0, .slice A1 i c1] := by rw [← hw5]; exact Blk.new _ _ _
      have hP5 : PM w1 w5 gl g (freshK d) none gr bl cl bd cd (.slice none 0 0) newRl (fun k => k = w4.heap.size) := by
        rw [← hw5]
        exact hP.out.own (Z := fun _ => False) ((Chg.refl _ w4).alloc _) (fun _ h => h.elim) (fun _ _ _ h => h) (fun _ _ _ h => h) (fun k hk => .inr (by subst hk; exact ⟨Nat.le_refl _, by rw [World.size_alloc]; omega⟩))
      clear hl hR hB4 q1 q2 q3 hP
      have d3 : w5.cell? ⟨w4.heap.size, 3, none⟩ = some (.pointer (some ⟨gr, 0, none⟩)) := hb5.cell 3
      have e0 : w5.cell? ⟨gr, 0, none⟩ = some (.slice (some ⟨bl, 0, none⟩) 70 cl) := hP5.rg.blk.cell 0
      have hb5a : Below w5.heap.size w5 (w5.alloc (.cells #[] 9)) := (Below.refl _ _).alloc (Nat.le_refl _) _
      have d3b := (hb5.alloc (.cells #[] 9)).cell 3
      have e0b := (hP5.rg.alloc (.cells #[] 9)).blk.cell 0
      have n5 : w4.heap.size ≠ w5.heap.size := Nat.ne_of_lt hb5.lt
      have n5b : gr ≠ w5.heap.size := Nat.ne_of_lt hP5.rg.blk.lt
      have hL70 : Hid (newRl.L.length = 70) := Lib.hid hP5.rg.ll.1
      have hrd := hP5.rg.rdL
      rw [hL70.out] at hrd
      have hrd := Lib.hid (hrd.below hb5a)
      have hrow := Lib.hid (own_empty w5 9)
      have hb5 := Lib.hid hb5
      have hP5 := Lib.hid hP5
      obtain ⟨DL, hDL⟩ : ∃ DL, Hid (newRl.L = DL) := ⟨_, Lib.hid rfl⟩
      rw [hDL.out] at hrd hL70
      go_wp2_with (at_builtin; refine stop_app rfl ?_)
      clear hw5
      refine Stop.mk (wpList_app _ rfl rfl (us := DL.map str) (base := 0) Try.underlying42 hj hy0 hy1 hy2 rfl hrow.out rfl hrd.out rfl (by intro u hu; obtain ⟨a, _, rfl⟩ := List.mem_map.1 hu; rfl) ?_ ?_ (Nat.zero_le _) ?_)
      · unfold maxLen; rw [List.length_map, hL70.out]; omega
      · rw [List.length_map, hL70.out]; omega
      intro v9 w9 hown hg hat
      obtain ⟨b1, k1, rfl, hk70, hrow9, hB9, nb1, lb1⟩ := clone_done rfl hown hg hat hL70.out
      have hb9 : Blk w9 w4.heap.size 75 _ := (hB9.block _ hb5.out.lt).trans hb5.out
      have hP9 := hP5.out.own (Z := fun _ => False) (Y := fun k => k = w4.heap.size ∨ k = b1) (Chg.of_below hB9) (fun _ h => h.elim) (fun _ _ _ h => h) (fun _ _ _ h => h) (fun k hk => hk.imp id fun e => by subst e; exact ⟨nb1, lb1⟩)
      have n9 : w4.heap.size ≠ w9.heap.size := Nat.ne_of_lt hb9.lt
      have hb10 : Blk (w9.alloc (.cells #[.slice (some ⟨b1, 0, none⟩) 70 k1] 42)) w4.heap.size 75 _ := hb9.alloc _
      have d4 := hb9.cell 4
      have d4b := hb10.cell 4
      have f4 := hb9.frozen 4
      have f4b := hb10.frozen 4
      have hs9 := hB9.size
      have hWM : WM w1 ((w9.alloc (.cells #[.slice (some ⟨b1, 0, none⟩) 70 k1] 42)).setCell ⟨w4.heap.size, 4, none⟩ (.slice (some ⟨w9.heap.size, 0, none⟩) 1 1)) g w4.heap.size gl gr bl cl bd cd (freshK d) none (.slice none 0 0) newRl (.slice (some ⟨w9.heap.size, 0, none⟩) 1 1) (.slice A1 i c1) [dList fmtV] cs (fun k => k = b1 ∨ k = w9.heap.size) := by
        have hch : Chg (fun k => k = w4.heap.size) w9 ((w9.alloc (.cells #[.slice (some ⟨b1, 0, none⟩) 70 k1] 42)).setCell ⟨w4.heap.size, 4, none⟩ (.slice (some ⟨w9.heap.size, 0, none⟩) 1 1)) := ((Chg.refl (fun k => k = w4.heap.size) w9).alloc _).setCell (p := ⟨w4.heap.size, 4, none⟩) (fun _ => rfl) _
        have hbm : Blk ((w9.alloc (.cells #[.slice (some ⟨b1, 0, none⟩) 70 k1] 42)).setCell ⟨w4.heap.size, 4, none⟩ (.slice (some ⟨w9.heap.size, 0, none⟩) 1 1)) w9.heap.size 42 #[.slice (some ⟨b1, 0, none⟩) 70 k1] := (Blk.new w9 _ _).far (fun e => n9 (by have e : w9.heap.size = w4.heap.size := e; exact e.symm)) _
        have hb1w : b1 ≠ w4.heap.size := by have := hb5.out.lt; omega
        have hrk : RowK ((w9.alloc (.cells #[.slice (some ⟨b1, 0, none⟩) 70 k1] 42)).setCell ⟨w4.heap.size, 4, none⟩ (.slice (some ⟨w9.heap.size, 0, none⟩) 1 1)) (fun k => k = b1 ∨ k = w9.heap.size) (.slice (some ⟨b1, 0, none⟩) 70 k1) DL := by
          obtain ⟨sp, hb2⟩ := hrow9
          exact ⟨b1, k1, rfl, hk70, hL70.out, ⟨sp, (hb2.alloc _).far (fun e => hb1w e) _⟩, .inl rfl⟩
        have hdl : dList fmtV = DL := by
          rw [← hDL.out]
          unfold dList
          refine (list_getD70 newRl.L [] (fun n => fmtV (65 + n)) hP5.out.rg.ll.1 fun m hm => ?_).symm
          show (List.replicate 70 zblk).getD m [] = _
          rw [getD_repl _ _ _ _ hm]
          unfold fmtV
          rw [if_neg (by omega)]
        rw [hdl]
        have hgp9 := hgp.out
        have hs45 := hb5.out.lt
        refine ⟨hP9.own hch (fun k hk => ⟨.inl hk, hk ▸ hgp9⟩) (fun k cs hb hk => by subst hk; exact absurd rfl (hb.ne_ hb9 (by decide))) (fun k cs hb hk => by subst hk; exact absurd rfl (hb.ne_ hb9 (by decide))) (fun k hk => ?_), hb10.set_ 4 _, MayR.one hrk hbm (.inr rfl), hx1.out.below hB1h.out, hgp9, fun hy => ?_, fun k hk => ?_⟩
        · rcases hk with e | e | e
          · exact .inl (.inl e)
          · exact .inl (.inr e)
          · exact .inr (by subst e; exact ⟨Nat.le_refl _, hbm.lt⟩)
        · rcases hy with e | e
          · exact hb1w e.symm
          · exact n9 e
        · rcases hk with e | e <;> omega
      have hti : Tie (freshK d) fmtV none newRl := ⟨fun n hn => by
        show (List.replicate 70 zblk).getD n [] = _
        rw [getD_repl _ _ _ _ hn]
        show zblk = fmtV (65 + n)
        unfold fmtV
        rw [if_neg (by omega)], fun n hn => getD_repl _ _ _ _ hn, rfl, rfl, fun _ => rfl, fun t e => (by cases e)⟩
      have harm := Lib.hid (arm0_calls hWM hla.out hti rfl rfl (by rw [hC.out]; omega) hcp.out)
      have hB1w : Hid (∀ W, Below w1.heap.size w1 W → Below w.heap.size w W) := Lib.hid fun W hb => hB1h.out.trans (hb.mono hB1h.out.size)
      clear hown hg hat hrow9 hB9 hb9 hP9 hb10 hWM hrow hrd hP5 hb5 e0b d3b hti
      go_wp2_with fail
      refine harm.out.mono ?_
      rintro e w12 ⟨rfl, hI⟩
      have hI := Lib.hid hI
      clear harm d3 e0 d4 d4b f4 f4b
      go_wp2
      go_loopw [11] (fun iv wr => ∃ j : Nat, j ≤ l.length ∧ iv = .int .i64 (j : Int) ∧ Hid (WInv w1 g w4.heap.size j wr)) (fun iv _ => l.length - (RowKit.intOf iv).toNat)
      case atStart => exact ⟨0, Nat.zero_le _, rfl, hI⟩
      case round =>
        obtain ⟨j, hj2, rfl, hJ⟩ := hrel
        clear hI
        have hBw1 : Below w1.heap.size w1 wr := by
          obtain ⟨_, _, _, _, _, _, _, _, _, _, _, _, _, _, _, h1, _⟩ := hJ.out
          exact h1.pm.bel
        have hBw := hB1w.out wr hBw1
        by_cases hjl : j < l.length
        · have hjl' : (j : Int) < l.length := by omega
          obtain ⟨ad, rfl, hcl⟩ := RdF.at_ (hx0.out.below hBw).1 (k := j) (by rw [List.length_map]; exact hjl)
          rw [List.getElem_map] at hcl
          have hld := run_loadAt_cells wr (ad.add (j * 3)) 65 l[j].row _ (fun k u hu => hcl k u hu) Try.underlying65 rfl (by kernel_rfl)
          have hst := Lib.hid (wstep_calls hJ.out (by omega) l[j] ((hx0.out.below hB1h.out).2 _ (List.getElem_mem hjl)) (hat0.out j hjl))
          obtain ⟨a, ha⟩ : ∃ a, Hid (l[j] = a) := ⟨_, Lib.hid rfl⟩
          rw [ha.out] at hld hst
          clear hcl hBw hBw1 hJ
          go_wp2_with (with_reducible refine stop_load 65 ?_)
          refine Stop.mk (wpList_load_cells rfl rfl rfl hld ?_)
          clear hld
          go_wp2_with fail
          refine hst.out.mono ?_
          rintro e w13 ⟨rfl, hJ2⟩
          have hJ2 := Lib.hid hJ2
          clear hst
          go_wp2
          go_roundw
          case rel => exact ⟨j + 1, by omega, by go_num, hJ2⟩
          case measure => simp [RowKit.intOf]; omega
        · obtain rfl : j = l.length := by omega
          have hBwh := Lib.hid hBw
          clear hBw hBw1 hJ
          go_wp2
          go_ret
          exact ⟨rfl, hBwh.out⟩
end Go.Proofs.Ytlfbfmeppcicnaa
