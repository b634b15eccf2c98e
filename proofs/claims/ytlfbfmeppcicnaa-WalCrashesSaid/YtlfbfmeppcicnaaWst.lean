/- play.step: an act on a log (that may be armed) and on the document's. Printed by genwst.py. -/
import Derived.Test.YtlfbfmeppcicnaaWpn
namespace Go.Proofs.Ytlfbfmeppcicnaa
open Go.RowKit
def tptr : Option (Nat × Tk) → Value
  | none => .pointer none
  | some p => .pointer (some ⟨p.1, 0, none⟩)
/-- Amid a step: the play lies at (gp, off), its act at q. -/
structure SH (W0 w w' : World) (gl g gr bl cl bd cd gp q T : Nat) (cs A : Array Value) (X : Nat → Prop) (x : Lk) (ot : Option (Nat × Tk)) (nv : Value) (r : Rl) : Prop where
  pm : PM W0 w' gl g x ot gr bl cl bd cd nv r (fun k => X k ∨ k = q)
  at_ : Blk w' gp T cs
  ac : Blk w' q 65 A
  kp : KeepX (fun k => X k ∧ k ≠ gp) w w'
section
variable {W0 w w1 w2 : World} {gl g gr bl cl bd cd gp q T : Nat} {cs A : Array Value} {X : Nat → Prop} {x x' : Lk} {ot ot' : Option (Nat × Tk)} {nv nv' : Value} {r r' : Rl}
theorem SH.step (h : SH W0 w w1 gl g gr bl cl bd cd gp q T cs A X x ot nv r) (hX : X gp) (hp : PM W0 w2 gl g x' ot' gr bl cl bd cd nv' r' (fun k => X k ∨ k = q)) (hk : KeepX (fun k => X k ∨ k = q) w1 w2) : SH W0 w w2 gl g gr bl cl bd cd gp q T cs A X x' ot' nv' r' :=
  ⟨hp, hk.blk h.at_ (.inl hX), hk.blk h.ac (.inr rfl), h.kp.trans fun k hk2 => hk k (.inl hk2.1)⟩
theorem SH.below (h : SH W0 w w1 gl g gr bl cl bd cd gp q T cs A X x ot nv r) (hX : X gp) (hb : Below w1.heap.size w1 w2) : SH W0 w w2 gl g gr bl cl bd cd gp q T cs A X x ot nv r :=
  h.step hX (h.pm.below hb) (KeepX.of_below hb h.pm.xl)
theorem SH.ref (h : SH W0 w w1 gl g gr bl cl bd cd gp q T cs A X x ot nv r) (hX : X gp) (hc : Chg (rgS gr bl bd nv) w1 w2) (hg : RG w2 gr bl cl bd cd nv' r') (hn : ∀ k, nv'.ownBlock = some k → nv.ownBlock = some k ∨ w1.heap.size ≤ k) : SH W0 w w2 gl g gr bl cl bd cd gp q T cs A X x ot nv' r' := by
  obtain ⟨h1, h2⟩ := h.pm.ref hc hg hn
  exact h.step hX h1 h2
theorem SH.drewN (h : SH W0 w w1 gl g gr bl cl bd cd gp q T cs A X x ot nv r) (hX : X gp) (n : Nat) : SH W0 w (w1.drewN n) gl g gr bl cl bd cd gp q T cs A X x ot nv r := h.below hX (below_drewN (Below.refl _ _) n)
theorem SH.drew (h : SH W0 w w1 gl g gr bl cl bd cd gp q T cs A X x ot nv r) (hX : X gp) : SH W0 w w1.drew gl g gr bl cl bd cd gp q T cs A X x ot nv r := h.below hX ((Below.refl _ _).drew)
/-- The step begins: its argument is boxed. -/
theorem SH.begin_ (h : PM W0 w gl g x ot gr bl cl bd cd nv r X) (hb : Blk w gp T cs) (A : Array Value) : SH W0 w (w.alloc (.cells A 65)) gl g gr bl cl bd cd gp w.heap.size T cs A X x ot nv r :=
  ⟨h.own (Z := fun _ => False) ((Chg.refl _ w).alloc _) (fun _ h => h.elim) (fun _ _ _ h => h) (fun _ _ _ h => h) (fun k hk => hk.imp id fun e => by subst e; exact ⟨Nat.le_refl _, by rw [World.size_alloc]; omega⟩), hb.alloc _, Blk.new _ _ _, fun k hk => by
    have := h.xl k hk.1
    exact Below.heap_alloc w _ k this⟩
/-- p.t is set. -/
theorem SH.setT (h : SH W0 w w1 gl g gr bl cl bd cd gp q T cs A X x ot nv r) (hX : X gp) (hg : W0.heap.size ≤ gp) (hq : gp ≠ q) (hT : 5 ≠ T ∧ 3 ≠ T) (i : Nat) (u : Value) : SH W0 w (w1.setCell ⟨gp, i, none⟩ u) gl g gr bl cl bd cd gp q T (cs.setIfInBounds i u) A X x ot nv r :=
  ⟨h.pm.own (Z := fun k => k = gp) (chg_set ⟨gp, i, none⟩ _) (fun k hk => ⟨.inl (hk ▸ hX), hk ▸ hg⟩) (fun k cs hb hk => by subst hk; exact absurd rfl (hb.ne_ h.at_ hT.1)) (fun k cs hb hk => by subst hk; exact absurd rfl (hb.ne_ h.at_ hT.2)) (fun k hk => .inl hk), h.at_.set_ i u, h.ac.far (fun e => hq e.symm) u, h.kp.trans fun k hk => by
    exact Below.heap_setCell w1 ⟨gp, i, none⟩ u k hk.2⟩
end
/-- What a step says of the two logs: all goes well, or the power went. -/
def SP (x : Lk) (r : Rl) (V : Nat → List UInt8) (M : Nat) (b : Bool) (x' : Lk) (ot' : Option Tk) (r' : Rl) : Prop :=
  ((∃ V0, LA 135 x V0) → x'.d.off = false ∧ ∃ V1, LA 135 x' V1) ∧
  (Cq 135 (fun L => Rep 135 L (fun n => V (65 + n)) ∨ Rep 135 L (datP x V)) x'.d ∨
   (b = true ∧ Fit 135 (M + 1300) x'.d ∧ 0 ≤ x'.pn ∧ x'.pn ≤ x.pn + 1 ∧ ∃ V', PA x' V' ∧ Tie x' V' ot' r' ∧ ((r'.sy = r.sy ∧ V' = V) ∨ (r'.sy = r.sy + 1 ∧ HomeOk 135 V' (datP x V)))))
theorem SP.quiet {x x' : Lk} {r r' : Rl} {V : Nat → List UInt8} {M : Nat} {ot' : Option Tk} (hp : PA x V) (hf : Fit 135 M x.d) (hpn : 0 ≤ x.pn) (hd : x'.d = x.d) (hw : x'.wt = x.wt) (hn : x'.pn = x.pn) (ht : Tie x' V ot' r') (hs : r'.sy = r.sy) : SP x r V M true x' ot' r' := by
  refine ⟨fun ⟨V0, h⟩ => ⟨by rw [hd]; exact h.vw.of, V0, ⟨by rw [hd]; exact h.vw, by rw [hd]; exact h.st, h.h0, by rw [hw]; exact h.wl, by rw [hw]; exact h.k63⟩⟩, .inr ⟨rfl, by rw [hd]; exact hf.mono (by omega), by omega, by omega, V, ⟨by rw [hd]; exact hp.pq, hp.h0, by rw [hw]; exact hp.wl, by rw [hw]; exact hp.k63⟩, ht, .inl ⟨hs, rfl⟩⟩⟩
theorem Fit.lsync {M : Nat} {x : Lk} (h : Fit 135 M x.d) (hk : (ksW 70 x.wt).length ≤ 63) : Fit 135 (M + 1300) (lsyncP x).2.d := by
  have h2 := Gr.lsyncW 135 (ksW (135 - 65) x.wt) x.wt M x.d h
  have h3 : (lsyncW (ksW (135 - 65) x.wt) x.wt x.d).2.l.length = 135 := h2.dl
  have hk2 : (ksW (135 - 65) x.wt).length ≤ 63 := hk
  unfold lsyncP
  rw [h.dl]
  split
  · exact h.mono (by omega)
  · split
    · exact h.mono (by omega)
    · split
      · exact h2.mono (by omega)
      · exact h2.mono (by omega)
theorem SP.sync {x : Lk} {r : Rl} {V : Nat → List UInt8} {M : Nat} {ot : Option Tk} (hp : PA x V) (hf : Fit 135 M x.d) (hpn : 0 ≤ x.pn) (ht : Tie x V ot r) : SP x r V M (decide ((lsyncP x).1 = 0)) (lsyncP x).2 ot (rsyncP r) := by
  refine ⟨fun ⟨V0, h⟩ => ?_, ?_⟩
  · obtain ⟨d', V', e, hl, _⟩ := h.lsync (by omega)
    rw [e]
    exact ⟨hl.vw.of, V', hl⟩
  · rcases hp.lsync with ⟨d', V', e, h1, h2⟩ | ⟨e, h1⟩
    · have hf2 := Fit.lsync hf hp.k63
      rw [e] at hf2 ⊢
      exact .inr ⟨rfl, hf2, Int.le_refl _, by show (0 : Int) ≤ _; omega, V', h1, ht.sync h2, .inr ⟨rfl, h2⟩⟩
    · exact .inl h1
theorem SP.commit {x : Lk} {r : Rl} {V : Nat → List UInt8} {M : Nat} {t : Tk} (hp : PA x V) (hf : Fit 135 M x.d) (hpn : 0 ≤ x.pn) (ht : Tie x V (some t) r) (ho : x.op = true) : SP x r V M (decide ((commitP 70 x t).1 = 0)) (commitP 70 x t).2.1 (some (commitP 70 x t).2.2) (rcommitP r) := by
  have h2 := ht.ts t rfl
  refine ⟨fun ⟨V0, h⟩ => ?_, ?_⟩
  · obtain ⟨y, V', e, hl, _⟩ := commit_ok h (by omega) h2.2.1 (by rw [h2.1, ho]; rfl)
    have e : commitP 70 x t = (0, y, ⟨t.m, true⟩) := e
    rw [e]
    exact ⟨hl.vw.of, V', hl⟩
  · rcases ht.commit ho hp with ⟨_, _, h1⟩ | ⟨e1, e2, V', h1, h3, h4⟩
    · exact .inl h1
    · refine .inr ⟨by rw [e1]; rfl, ?_, ?_, ?_, V', h1, by rw [e2]; exact h3, h4⟩
      · unfold commitP
        rw [if_neg (show ¬ (t.ov = true) by rw [h2.1, ho]; decide), if_neg (show ¬ (x.d.off = true) by rw [hp.pq.of]; decide)]
        have hs : Fit 135 (M + 1300) (syncOr 70 x t).2.d := by
          unfold syncOr
          split
          · exact hf.mono (by omega)
          · exact Fit.lsync hf hp.k63
        split
        · exact hs
        · exact hs
      · rcases hp.commit h2.2.1 (by rw [h2.1, ho]; rfl) with ⟨_, e, _⟩ | ⟨_, d', V2, e, _⟩ | ⟨_, e, _⟩
        · rw [e]; show 0 ≤ x.pn + 1; omega
        · rw [e]; show (0 : Int) ≤ 1; omega
        · rw [e1] at e; cases e
      · rcases hp.commit h2.2.1 (by rw [h2.1, ho]; rfl) with ⟨_, e, _⟩ | ⟨_, d', V2, e, _⟩ | ⟨_, e, _⟩
        · rw [e]; exact Int.le_refl _
        · rw [e]; show (1 : Int) ≤ x.pn + 1; omega
        · rw [e1] at e; cases e
/-- What a step leaves. -/
def SO (W0 w : World) (gl g gr bl cl bd cd gp off T : Nat) (cs : Array Value) (X : Nat → Prop) (x : Lk) (r : Rl) (V : Nat → List UInt8) (M : Nat) (e : Ending) (w' : World) : Prop :=
  ∃ b x' ot' nv' r', e = .returned (.bool b) ∧ PM W0 w' gl g x' ot' gr bl cl bd cd nv' r' X ∧ Blk w' gp T (cs.setIfInBounds (off + 1) (tptr ot')) ∧ KeepX (fun k => X k ∧ k ≠ gp) w w' ∧ SP x r V M b x' (ot'.map Prod.snd) r'
theorem set_same {cs : Array Value} {i : Nat} {u : Value} (h : cs[i]? = some u) : cs.setIfInBounds i u = cs := by
  apply Array.ext_getElem?
  intro j
  rw [Array.getElem?_setIfInBounds]
  split
  · rename_i e
    subst e
    split
    · exact h.symm
    · rename_i hl
      rw [Array.getElem?_eq_none (by omega)] at h
      cases h
  · rfl
set_option linter.unusedVariables false in
set_option maxRecDepth 100000 in
set_option maxHeartbeats 8000000 in
theorem step5 {W0 w : World} {gl g gr bl cl bd cd gp off T : Nat} {cs : Array Value} {X : Nat → Prop} {x : Lk} {ot : Option (Nat × Tk)} {nv : Value} {r : Rl} {V : Nat → List UInt8} {M : Nat} (h : PM W0 w gl g x (ot) gr bl cl bd cd nv r X) (hb : Blk w gp T cs) (i0 : cs[off]? = some (.pointer (some ⟨gl, 0, none⟩))) (i1 : cs[off + 1]? = some (tptr (ot))) (i2 : cs[off + 2]? = some (.pointer (some ⟨gr, 0, none⟩))) (hX : X gp) (hg : W0.heap.size ≤ gp) (hT : 5 ≠ T ∧ 3 ≠ T) (hp : PA x V) (ht : Tie x V (ot.map Prod.snd) r) (hf : Fit 135 M x.d) (hM : M ≤ 700000000) (hpn : 0 ≤ x.pn ∧ x.pn ≤ 1000000) (hsy : 0 ≤ r.sy ∧ r.sy ≤ 1000000) (n : Int) (hn : -9223372036854775808 ≤ n ∧ n ≤ 9223372036854775807) (bA : Option Addr) (bc : Nat) (bs : List UInt8) (hv : Rd W0 (.slice bA bs.length bc) (bvs bs)) (hbl : bs.length ≤ 64) : Calls Try.prog 37 #[.pointer (some ⟨gp, off, none⟩), .agg #[.int .i64 5, .int .i64 n, .slice bA bs.length bc]] w (SO W0 w gl g gr bl cl bd cd gp off T cs X x r V M) := by
  have h1 := Lib.hid (SH.begin_ h hb #[.int .i64 5, .int .i64 n, .slice bA bs.length bc])
  obtain ⟨w1, hw1⟩ : ∃ w1, w.alloc (.cells #[.int .i64 5, .int .i64 n, .slice bA bs.length bc] 65) = w1 := ⟨_, rfl⟩
  rw [hw1] at h1
  have hqne : gp ≠ w.heap.size := fun e => by have := h.xl gp hX; omega
  have d0 : w1.cell? ⟨w.heap.size, 0, none⟩ = some (.int .i64 5) := h1.out.ac.cell 0
  have d1 : w1.cell? ⟨w.heap.size, 1, none⟩ = some (.int .i64 n) := h1.out.ac.cell 1
  have d2 : w1.cell? ⟨w.heap.size, 2, none⟩ = some (.slice bA bs.length bc) := h1.out.ac.cell 2
  have p0 : w1.cell? ⟨gp, off, none⟩ = some (.pointer (some ⟨gl, 0, none⟩)) := (h1.out.at_.cell off).trans i0
  have p1 : w1.cell? ⟨gp, off + 1, none⟩ = some (tptr ot) := (h1.out.at_.cell (off + 1)).trans i1
  have p2 : w1.cell? ⟨gp, off + 2, none⟩ = some (.pointer (some ⟨gr, 0, none⟩)) := (h1.out.at_.cell (off + 2)).trans i2
  clear h hb
  have hi1 := Lib.hid i1
  have hi0 := Lib.hid i0
  have hi2 := Lib.hid i2
  have hS := Lib.hid (RSync_calls w1 h1.out.pm.rg ⟨hsy.1, by omega⟩)
  have hk := Lib.hid hp.k63
  have hsp := Lib.hid (SP.sync hp hf hpn.1 ht)
  have hf := Lib.hid hf
  have hX := Lib.hid hX
  clear i0 i1 i2 hp ht hsy hpn hv hqne
  go_enter Try.func37, Try.ntmps37
  go_wp2_with fail
  refine hS.out.mono ?_
  rintro e w2 ⟨rfl, hg2, hc2⟩
  have h2 := Lib.hid (h1.out.ref hX.out (hc2.mono (fun k _ hk => RG.ssub hk)) hg2 (fun k hk => .inl hk))
  have h2 : Hid (SH W0 w w2 gl g gr bl cl bd cd gp w.heap.size T cs _ X x ot nv (rsyncP r)) := h2
  have p0' : w2.cell? ⟨gp, off, none⟩ = some (.pointer (some ⟨gl, 0, none⟩)) := (h2.out.at_.cell off).trans hi0.out
  have hY := Lib.hid (pSync h2.out.pm hf.out (by omega) hk.out)
  clear hg2 hc2 h1 hS p0 p1 p2 d0 d1 d2
  obtain ⟨E, hE⟩ : ∃ E, Hid ((lsyncP x).1 = E) := ⟨_, Lib.hid rfl⟩
  rw [hE.out] at hY hsp
  go_wp2_with fail
  refine hY.out.mono ?_
  rintro e w3 ⟨rfl, hg3, hc3⟩
  have h3 := Lib.hid (h2.out.step hX.out hg3 hc3)
  have hfin : Hid (SO W0 w gl g gr bl cl bd cd gp off T cs X x r V M (.returned (.bool (decide (E = 0)))) w3) := Lib.hid ⟨_, _, ot, nv, _, rfl, h3.out.pm.less (fun k hk => .inl hk), by rw [set_same hi1.out]; exact h3.out.at_, h3.out.kp, hsp.out⟩
  clear hg3 hc3 hY h2 p0'
  by_cases hE0 : E = 0
  · subst hE0
    go_wp2
    go_ret
    exact hfin.out
  · have hE1 : (E == 0) = false := beq_eq_false_iff_ne.2 hE0
    rw [decide_eq_false hE0] at hfin
    go_wp2
    go_ret
    exact hfin.out
set_option linter.unusedVariables false in
set_option maxRecDepth 100000 in
set_option maxHeartbeats 8000000 in
theorem step4n {W0 w : World} {gl g gr bl cl bd cd gp off T : Nat} {cs : Array Value} {X : Nat → Prop} {x : Lk} {nv : Value} {r : Rl} {V : Nat → List UInt8} {M : Nat} (h : PM W0 w gl g x (none) gr bl cl bd cd nv r X) (hb : Blk w gp T cs) (i0 : cs[off]? = some (.pointer (some ⟨gl, 0, none⟩))) (i1 : cs[off + 1]? = some (tptr (none))) (i2 : cs[off + 2]? = some (.pointer (some ⟨gr, 0, none⟩))) (hX : X gp) (hg : W0.heap.size ≤ gp) (hT : 5 ≠ T ∧ 3 ≠ T) (hp : PA x V) (ht : Tie x V (none) r) (hf : Fit 135 M x.d) (hM : M ≤ 700000000) (hpn : 0 ≤ x.pn ∧ x.pn ≤ 1000000) (hsy : 0 ≤ r.sy ∧ r.sy ≤ 1000000) (n : Int) (hn : -9223372036854775808 ≤ n ∧ n ≤ 9223372036854775807) (bA : Option Addr) (bc : Nat) (bs : List UInt8) (hv : Rd W0 (.slice bA bs.length bc) (bvs bs)) (hbl : bs.length ≤ 64) : Calls Try.prog 37 #[.pointer (some ⟨gp, off, none⟩), .agg #[.int .i64 4, .int .i64 n, .slice bA bs.length bc]] w (SO W0 w gl g gr bl cl bd cd gp off T cs X x r V M) := by
  have h1 := Lib.hid (SH.begin_ h hb #[.int .i64 4, .int .i64 n, .slice bA bs.length bc])
  obtain ⟨w1, hw1⟩ : ∃ w1, w.alloc (.cells #[.int .i64 4, .int .i64 n, .slice bA bs.length bc] 65) = w1 := ⟨_, rfl⟩
  rw [hw1] at h1
  have hqne : gp ≠ w.heap.size := fun e => by have := h.xl gp hX; omega
  have d0 : w1.cell? ⟨w.heap.size, 0, none⟩ = some (.int .i64 4) := h1.out.ac.cell 0
  have d1 : w1.cell? ⟨w.heap.size, 1, none⟩ = some (.int .i64 n) := h1.out.ac.cell 1
  have d2 : w1.cell? ⟨w.heap.size, 2, none⟩ = some (.slice bA bs.length bc) := h1.out.ac.cell 2
  have p0 : w1.cell? ⟨gp, off, none⟩ = some (.pointer (some ⟨gl, 0, none⟩)) := (h1.out.at_.cell off).trans i0
  have p1 : w1.cell? ⟨gp, off + 1, none⟩ = some (.pointer none) := (h1.out.at_.cell (off + 1)).trans i1
  have p2 : w1.cell? ⟨gp, off + 2, none⟩ = some (.pointer (some ⟨gr, 0, none⟩)) := (h1.out.at_.cell (off + 2)).trans i2
  clear h hb
  have hi1 := Lib.hid i1
  have hi0 := Lib.hid i0
  have hi2 := Lib.hid i2
  have hof : x.d.off = false := hp.pq.of
  have hXh := Lib.hid hX
  have hsp := Lib.hid (SP.quiet (x' := x) (r' := r) hp hf hpn.1 rfl rfl rfl ht rfl)
  have hfin : Hid (SO W0 w gl g gr bl cl bd cd gp off T cs X x r V M (.returned (.bool true)) w1) := Lib.hid ⟨_, x, none, nv, r, rfl, h1.out.pm.less (fun k hk => .inl hk), by rw [set_same hi1.out]; exact h1.out.at_, h1.out.kp, hsp.out⟩
  clear i0 i1 i2 hp ht hsy hpn hv hqne h1 hf hof hX
  go_enter Try.func37, Try.ntmps37
  go_wp2
  go_ret
  exact hfin.out
set_option linter.unusedVariables false in
set_option maxRecDepth 100000 in
set_option maxHeartbeats 8000000 in
theorem step4s {W0 w : World} {gl g gr bl cl bd cd gp off T : Nat} {cs : Array Value} {X : Nat → Prop} {x : Lk} {gt : Nat} {t : Tk} {nv : Value} {r : Rl} {V : Nat → List UInt8} {M : Nat} (h : PM W0 w gl g x (some (gt, t)) gr bl cl bd cd nv r X) (hb : Blk w gp T cs) (i0 : cs[off]? = some (.pointer (some ⟨gl, 0, none⟩))) (i1 : cs[off + 1]? = some (tptr (some (gt, t)))) (i2 : cs[off + 2]? = some (.pointer (some ⟨gr, 0, none⟩))) (hX : X gp) (hg : W0.heap.size ≤ gp) (hT : 5 ≠ T ∧ 3 ≠ T) (hp : PA x V) (ht : Tie x V (some t) r) (hf : Fit 135 M x.d) (hM : M ≤ 700000000) (hpn : 0 ≤ x.pn ∧ x.pn ≤ 1000000) (hsy : 0 ≤ r.sy ∧ r.sy ≤ 1000000) (n : Int) (hn : -9223372036854775808 ≤ n ∧ n ≤ 9223372036854775807) (bA : Option Addr) (bc : Nat) (bs : List UInt8) (hv : Rd W0 (.slice bA bs.length bc) (bvs bs)) (hbl : bs.length ≤ 64) : Calls Try.prog 37 #[.pointer (some ⟨gp, off, none⟩), .agg #[.int .i64 4, .int .i64 n, .slice bA bs.length bc]] w (SO W0 w gl g gr bl cl bd cd gp off T cs X x r V M) := by
  have h1 := Lib.hid (SH.begin_ h hb #[.int .i64 4, .int .i64 n, .slice bA bs.length bc])
  obtain ⟨w1, hw1⟩ : ∃ w1, w.alloc (.cells #[.int .i64 4, .int .i64 n, .slice bA bs.length bc] 65) = w1 := ⟨_, rfl⟩
  rw [hw1] at h1
  have hqne : gp ≠ w.heap.size := fun e => by have := h.xl gp hX; omega
  have d0 : w1.cell? ⟨w.heap.size, 0, none⟩ = some (.int .i64 4) := h1.out.ac.cell 0
  have d1 : w1.cell? ⟨w.heap.size, 1, none⟩ = some (.int .i64 n) := h1.out.ac.cell 1
  have d2 : w1.cell? ⟨w.heap.size, 2, none⟩ = some (.slice bA bs.length bc) := h1.out.ac.cell 2
  have p0 : w1.cell? ⟨gp, off, none⟩ = some (.pointer (some ⟨gl, 0, none⟩)) := (h1.out.at_.cell off).trans i0
  have p1 : w1.cell? ⟨gp, off + 1, none⟩ = some (.pointer (some ⟨gt, 0, none⟩)) := (h1.out.at_.cell (off + 1)).trans i1
  have p2 : w1.cell? ⟨gp, off + 2, none⟩ = some (.pointer (some ⟨gr, 0, none⟩)) := (h1.out.at_.cell (off + 2)).trans i2
  clear h hb
  have hi1 := Lib.hid i1
  have hi0 := Lib.hid i0
  have hi2 := Lib.hid i2
  have hof : x.d.off = false := hp.pq.of
  have hXh := Lib.hid hX
  have hA := Lib.hid (pAbort h1.out.pm)
  have hab := ht.abort
  have hsp := Lib.hid (SP.quiet (x' := (abortP x t).1) (ot' := some (abortP x t).2) (r' := { r with op := false }) (M := M) hp hf hpn.1 hab.2.1 hab.2.2 (by unfold abortP; split <;> rfl) hab.1 rfl)
  clear i0 i1 i2 hp ht hsy hpn hv hqne hf hof hX hab
  go_enter Try.func37, Try.ntmps37
  go_wp2_with fail
  refine hA.out.mono ?_
  rintro e w2 ⟨rfl, hg2, hc2⟩
  have h2 := Lib.hid (h1.out.step hXh.out hg2 hc2)
  have p0 : w2.cell? ⟨gp, off, none⟩ = some (.pointer (some ⟨gl, 0, none⟩)) := (h2.out.at_.cell off).trans hi0.out
  have p1 : w2.cell? ⟨gp, off + 1, none⟩ = some (.pointer (some ⟨gt, 0, none⟩)) := (h2.out.at_.cell (off + 1)).trans hi1.out
  have p2 : w2.cell? ⟨gp, off + 2, none⟩ = some (.pointer (some ⟨gr, 0, none⟩)) := (h2.out.at_.cell (off + 2)).trans hi2.out
  have hR := Lib.hid (RAbort_calls w2 h2.out.pm.rg)
  clear hA hg2 hc2 h1
  go_wp2_with fail
  refine hR.out.mono ?_
  rintro e w3 ⟨rfl, hg3, hc3⟩
  have h3 := Lib.hid (h2.out.ref hXh.out (hc3.mono (fun k _ hk => .inl hk)) hg3 (fun k hk => .inl hk))
  have hfin : Hid (SO W0 w gl g gr bl cl bd cd gp off T cs X x r V M (.returned (.bool true)) w3) := Lib.hid ⟨_, _, some (gt, (abortP x t).2), nv, _, rfl, h3.out.pm.less (fun k hk => .inl hk), by rw [set_same (u := tptr (some (gt, (abortP x t).2))) hi1.out]; exact h3.out.at_, h3.out.kp, hsp.out⟩
  clear hg3 hc3 h2 hR h3 hsp
  go_wp2
  go_ret
  exact hfin.out
set_option linter.unusedVariables false in
set_option maxRecDepth 100000 in
set_option maxHeartbeats 8000000 in
theorem step1o {W0 w : World} {gl g gr bl cl bd cd gp off T : Nat} {cs : Array Value} {X : Nat → Prop} {x : Lk} {ot : Option (Nat × Tk)} {nv : Value} {r : Rl} {V : Nat → List UInt8} {M : Nat} (h : PM W0 w gl g x (ot) gr bl cl bd cd nv r X) (hb : Blk w gp T cs) (i0 : cs[off]? = some (.pointer (some ⟨gl, 0, none⟩))) (i1 : cs[off + 1]? = some (tptr (ot))) (i2 : cs[off + 2]? = some (.pointer (some ⟨gr, 0, none⟩))) (hX : X gp) (hg : W0.heap.size ≤ gp) (hT : 5 ≠ T ∧ 3 ≠ T) (hp : PA x V) (ht : Tie x V (ot.map Prod.snd) r) (hf : Fit 135 M x.d) (hM : M ≤ 700000000) (hpn : 0 ≤ x.pn ∧ x.pn ≤ 1000000) (hsy : 0 ≤ r.sy ∧ r.sy ≤ 1000000) (n : Int) (hn : -9223372036854775808 ≤ n ∧ n ≤ 9223372036854775807) (bA : Option Addr) (bc : Nat) (bs : List UInt8) (hv : Rd W0 (.slice bA bs.length bc) (bvs bs)) (hbl : bs.length ≤ 64) (hop : x.op = true) : Calls Try.prog 37 #[.pointer (some ⟨gp, off, none⟩), .agg #[.int .i64 1, .int .i64 n, .slice bA bs.length bc]] w (SO W0 w gl g gr bl cl bd cd gp off T cs X x r V M) := by
  have h1 := Lib.hid (SH.begin_ h hb #[.int .i64 1, .int .i64 n, .slice bA bs.length bc])
  obtain ⟨w1, hw1⟩ : ∃ w1, w.alloc (.cells #[.int .i64 1, .int .i64 n, .slice bA bs.length bc] 65) = w1 := ⟨_, rfl⟩
  rw [hw1] at h1
  have hqne : gp ≠ w.heap.size := fun e => by have := h.xl gp hX; omega
  have d0 : w1.cell? ⟨w.heap.size, 0, none⟩ = some (.int .i64 1) := h1.out.ac.cell 0
  have d1 : w1.cell? ⟨w.heap.size, 1, none⟩ = some (.int .i64 n) := h1.out.ac.cell 1
  have d2 : w1.cell? ⟨w.heap.size, 2, none⟩ = some (.slice bA bs.length bc) := h1.out.ac.cell 2
  have p0 : w1.cell? ⟨gp, off, none⟩ = some (.pointer (some ⟨gl, 0, none⟩)) := (h1.out.at_.cell off).trans i0
  have p1 : w1.cell? ⟨gp, off + 1, none⟩ = some (tptr ot) := (h1.out.at_.cell (off + 1)).trans i1
  have p2 : w1.cell? ⟨gp, off + 2, none⟩ = some (.pointer (some ⟨gr, 0, none⟩)) := (h1.out.at_.cell (off + 2)).trans i2
  clear h hb
  have hi1 := Lib.hid i1
  have hi0 := Lib.hid i0
  have hi2 := Lib.hid i2
  have hof : x.d.off = false := hp.pq.of
  have hXh := Lib.hid hX
  have hrop := ht.op
  have hsp := Lib.hid (SP.quiet (x' := x) (r' := r) hp hf hpn.1 rfl rfl rfl ht rfl)
  have hfin : Hid (SO W0 w gl g gr bl cl bd cd gp off T cs X x r V M (.returned (.bool true)) w1) := Lib.hid ⟨_, x, ot, nv, r, rfl, h1.out.pm.less (fun k hk => .inl hk), by rw [set_same hi1.out]; exact h1.out.at_, h1.out.kp, hsp.out⟩
  rw [hop] at hrop
  have hB := Lib.hid (pBegin_open h1.out.pm hof hop)
  have hR := Lib.hid (RBegin_open w1 h1.out.pm.rg hrop)
  clear i0 i1 i2 hp ht hsy hpn hv hqne h1 hf hof hX hop hrop hsp
  go_enter Try.func37, Try.ntmps37
  go_wp2_with fail
  refine hB.out.mono ?_
  rintro e w2 ⟨rfl, rfl⟩
  go_wp2_with fail
  refine hR.out.mono ?_
  rintro e w2 ⟨rfl, rfl⟩
  go_wp2
  go_ret
  exact hfin.out
set_option linter.unusedVariables false in
set_option maxRecDepth 100000 in
set_option maxHeartbeats 8000000 in
theorem step1n {W0 w : World} {gl g gr bl cl bd cd gp off T : Nat} {cs : Array Value} {X : Nat → Prop} {x : Lk} {ot : Option (Nat × Tk)} {nv : Value} {r : Rl} {V : Nat → List UInt8} {M : Nat} (h : PM W0 w gl g x (ot) gr bl cl bd cd nv r X) (hb : Blk w gp T cs) (i0 : cs[off]? = some (.pointer (some ⟨gl, 0, none⟩))) (i1 : cs[off + 1]? = some (tptr (ot))) (i2 : cs[off + 2]? = some (.pointer (some ⟨gr, 0, none⟩))) (hX : X gp) (hg : W0.heap.size ≤ gp) (hT : 5 ≠ T ∧ 3 ≠ T) (hp : PA x V) (ht : Tie x V (ot.map Prod.snd) r) (hf : Fit 135 M x.d) (hM : M ≤ 700000000) (hpn : 0 ≤ x.pn ∧ x.pn ≤ 1000000) (hsy : 0 ≤ r.sy ∧ r.sy ≤ 1000000) (n : Int) (hn : -9223372036854775808 ≤ n ∧ n ≤ 9223372036854775807) (bA : Option Addr) (bc : Nat) (bs : List UInt8) (hv : Rd W0 (.slice bA bs.length bc) (bvs bs)) (hbl : bs.length ≤ 64) (hop : x.op = false) : Calls Try.prog 37 #[.pointer (some ⟨gp, off, none⟩), .agg #[.int .i64 1, .int .i64 n, .slice bA bs.length bc]] w (SO W0 w gl g gr bl cl bd cd gp off T cs X x r V M) := by
  have h1 := Lib.hid (SH.begin_ h hb #[.int .i64 1, .int .i64 n, .slice bA bs.length bc])
  obtain ⟨w1, hw1⟩ : ∃ w1, w.alloc (.cells #[.int .i64 1, .int .i64 n, .slice bA bs.length bc] 65) = w1 := ⟨_, rfl⟩
  rw [hw1] at h1
  have hqne : gp ≠ w.heap.size := fun e => by have := h.xl gp hX; omega
  have d0 : w1.cell? ⟨w.heap.size, 0, none⟩ = some (.int .i64 1) := h1.out.ac.cell 0
  have d1 : w1.cell? ⟨w.heap.size, 1, none⟩ = some (.int .i64 n) := h1.out.ac.cell 1
  have d2 : w1.cell? ⟨w.heap.size, 2, none⟩ = some (.slice bA bs.length bc) := h1.out.ac.cell 2
  have p0 : w1.cell? ⟨gp, off, none⟩ = some (.pointer (some ⟨gl, 0, none⟩)) := (h1.out.at_.cell off).trans i0
  have p1 : w1.cell? ⟨gp, off + 1, none⟩ = some (tptr ot) := (h1.out.at_.cell (off + 1)).trans i1
  have p2 : w1.cell? ⟨gp, off + 2, none⟩ = some (.pointer (some ⟨gr, 0, none⟩)) := (h1.out.at_.cell (off + 2)).trans i2
  clear h hb
  have hi1 := Lib.hid i1
  have hi0 := Lib.hid i0
  have hi2 := Lib.hid i2
  have hof : x.d.off = false := hp.pq.of
  have hXh := Lib.hid hX
  have hrop := ht.op
  have hTh := Lib.hid hT
  have hgh := Lib.hid hg
  have hqh := Lib.hid hqne
  have htb := ht.begun hop
  have hsp := Lib.hid (fun r2 (e : r2 = { r with op := true, nw := List.replicate 70 [], wr := 0 }) => SP.quiet (x := x) (x' := ⟨x.d, x.wt, x.pn, true⟩) (ot' := some ⟨fun _ => none, false⟩) (r := r) (r' := r2) (M := M) hp hf hpn.1 rfl rfl rfl (e ▸ htb) (by rw [e]))
  rw [hop] at hrop
  have hroph := Lib.hid hrop
  have hB := Lib.hid (pBegin h1.out.pm hp.pq.dl hof hop)
  clear i0 i1 i2 hp ht hsy hpn hv hqne hf hof hX hop hrop htb hT hg
  go_enter Try.func37, Try.ntmps37
  go_wp2_with fail
  refine hB.out.mono ?_
  rintro e w2 ⟨gt, rfl, hg2, hc2⟩
  have h2 := Lib.hid (h1.out.step hXh.out hg2 hc2)
  have p0 : w2.cell? ⟨gp, off, none⟩ = some (.pointer (some ⟨gl, 0, none⟩)) := (h2.out.at_.cell off).trans hi0.out
  have p1 : w2.cell? ⟨gp, off + 1, none⟩ = some (tptr ot) := (h2.out.at_.cell (off + 1)).trans hi1.out
  have p2 : w2.cell? ⟨gp, off + 2, none⟩ = some (.pointer (some ⟨gr, 0, none⟩)) := (h2.out.at_.cell (off + 2)).trans hi2.out
  have hR := Lib.hid (RBegin_new w2 h2.out.pm.rg hroph.out)
  clear hB hg2 hc2 h1
  go_wp2_with fail
  refine hR.out.mono ?_
  rintro e w3 ⟨rfl, hg3, hc3, _⟩
  have h3 := Lib.hid (h2.out.ref hXh.out (hc3.mono (fun k _ hk => .inl hk)) hg3 (fun k hk => .inr (by have e : w2.heap.size = k := Option.some.inj hk; omega)))
  have p0 : w3.cell? ⟨gp, off, none⟩ = some (.pointer (some ⟨gl, 0, none⟩)) := (h3.out.at_.cell off).trans hi0.out
  have p1 : w3.cell? ⟨gp, off + 1, none⟩ = some (tptr ot) := (h3.out.at_.cell (off + 1)).trans hi1.out
  have p2 : w3.cell? ⟨gp, off + 2, none⟩ = some (.pointer (some ⟨gr, 0, none⟩)) := (h3.out.at_.cell (off + 2)).trans hi2.out
  have f1 : w3.frozen? ⟨gp, off + 1, none⟩ = false := h3.out.at_.frozen (off + 1)
  have h4 := h3.out.setT hXh.out hgh.out hqh.out hTh.out (off + 1) (.pointer (some ⟨gt, 0, none⟩))
  have hfin : Hid (SO W0 w gl g gr bl cl bd cd gp off T cs X x r V M (.returned (.bool true)) (w3.setCell ⟨gp, off + 1, none⟩ (.pointer (some ⟨gt, 0, none⟩)))) := Lib.hid ⟨_, _, some (gt, ⟨fun _ => none, false⟩), _, _, rfl, h4.pm.less (fun k hk => .inl hk), h4.at_, h4.kp, hsp.out _ rfl⟩
  clear hg3 hc3 h2 hR h3 hsp h4 hi1
  go_wp2
  go_ret
  exact hfin.out
set_option linter.unusedVariables false in
set_option maxRecDepth 100000 in
set_option maxHeartbeats 8000000 in
theorem step3n {W0 w : World} {gl g gr bl cl bd cd gp off T : Nat} {cs : Array Value} {X : Nat → Prop} {x : Lk} {nv : Value} {r : Rl} {V : Nat → List UInt8} {M : Nat} (h : PM W0 w gl g x (none) gr bl cl bd cd nv r X) (hb : Blk w gp T cs) (i0 : cs[off]? = some (.pointer (some ⟨gl, 0, none⟩))) (i1 : cs[off + 1]? = some (tptr (none))) (i2 : cs[off + 2]? = some (.pointer (some ⟨gr, 0, none⟩))) (hX : X gp) (hg : W0.heap.size ≤ gp) (hT : 5 ≠ T ∧ 3 ≠ T) (hp : PA x V) (ht : Tie x V (none) r) (hf : Fit 135 M x.d) (hM : M ≤ 700000000) (hpn : 0 ≤ x.pn ∧ x.pn ≤ 1000000) (hsy : 0 ≤ r.sy ∧ r.sy ≤ 1000000) (n : Int) (hn : -9223372036854775808 ≤ n ∧ n ≤ 9223372036854775807) (bA : Option Addr) (bc : Nat) (bs : List UInt8) (hv : Rd W0 (.slice bA bs.length bc) (bvs bs)) (hbl : bs.length ≤ 64) : Calls Try.prog 37 #[.pointer (some ⟨gp, off, none⟩), .agg #[.int .i64 3, .int .i64 n, .slice bA bs.length bc]] w (SO W0 w gl g gr bl cl bd cd gp off T cs X x r V M) := by
  have h1 := Lib.hid (SH.begin_ h hb #[.int .i64 3, .int .i64 n, .slice bA bs.length bc])
  obtain ⟨w1, hw1⟩ : ∃ w1, w.alloc (.cells #[.int .i64 3, .int .i64 n, .slice bA bs.length bc] 65) = w1 := ⟨_, rfl⟩
  rw [hw1] at h1
  have hqne : gp ≠ w.heap.size := fun e => by have := h.xl gp hX; omega
  have d0 : w1.cell? ⟨w.heap.size, 0, none⟩ = some (.int .i64 3) := h1.out.ac.cell 0
  have d1 : w1.cell? ⟨w.heap.size, 1, none⟩ = some (.int .i64 n) := h1.out.ac.cell 1
  have d2 : w1.cell? ⟨w.heap.size, 2, none⟩ = some (.slice bA bs.length bc) := h1.out.ac.cell 2
  have p0 : w1.cell? ⟨gp, off, none⟩ = some (.pointer (some ⟨gl, 0, none⟩)) := (h1.out.at_.cell off).trans i0
  have p1 : w1.cell? ⟨gp, off + 1, none⟩ = some (.pointer none) := (h1.out.at_.cell (off + 1)).trans i1
  have p2 : w1.cell? ⟨gp, off + 2, none⟩ = some (.pointer (some ⟨gr, 0, none⟩)) := (h1.out.at_.cell (off + 2)).trans i2
  clear h hb
  have hi1 := Lib.hid i1
  have hi0 := Lib.hid i0
  have hi2 := Lib.hid i2
  have hof : x.d.off = false := hp.pq.of
  have hXh := Lib.hid hX
  have hsp := Lib.hid (SP.quiet (x' := x) (r' := r) hp hf hpn.1 rfl rfl rfl ht rfl)
  have hfin : Hid (∀ k, SO W0 w gl g gr bl cl bd cd gp off T cs X x r V M (.returned (.bool true)) (w1.drewN k)) := Lib.hid fun k => ⟨_, x, none, nv, r, rfl, (h1.out.drewN hX k).pm.less (fun k hk => .inl hk), by rw [set_same hi1.out]; exact (h1.out.drewN hX k).at_, (h1.out.drewN hX k).kp, hsp.out⟩
  clear i0 i1 i2 hp ht hsy hpn hv hqne h1 hf hof hX
  go_enter Try.func37, Try.ntmps37
  go_wp2
  go_quiet (fail)
  go_wp2
  go_ret
  exact hfin.out _
set_option linter.unusedVariables false in
set_option maxRecDepth 100000 in
set_option maxHeartbeats 8000000 in
theorem step3o {W0 w : World} {gl g gr bl cl bd cd gp off T : Nat} {cs : Array Value} {X : Nat → Prop} {x : Lk} {gt : Nat} {t : Tk} {nv : Value} {r : Rl} {V : Nat → List UInt8} {M : Nat} (h : PM W0 w gl g x (some (gt, t)) gr bl cl bd cd nv r X) (hb : Blk w gp T cs) (i0 : cs[off]? = some (.pointer (some ⟨gl, 0, none⟩))) (i1 : cs[off + 1]? = some (tptr (some (gt, t)))) (i2 : cs[off + 2]? = some (.pointer (some ⟨gr, 0, none⟩))) (hX : X gp) (hg : W0.heap.size ≤ gp) (hT : 5 ≠ T ∧ 3 ≠ T) (hp : PA x V) (ht : Tie x V (some t) r) (hf : Fit 135 M x.d) (hM : M ≤ 700000000) (hpn : 0 ≤ x.pn ∧ x.pn ≤ 1000000) (hsy : 0 ≤ r.sy ∧ r.sy ≤ 1000000) (n : Int) (hn : -9223372036854775808 ≤ n ∧ n ≤ 9223372036854775807) (bA : Option Addr) (bc : Nat) (bs : List UInt8) (hv : Rd W0 (.slice bA bs.length bc) (bvs bs)) (hbl : bs.length ≤ 64) (hop : x.op = true) : Calls Try.prog 37 #[.pointer (some ⟨gp, off, none⟩), .agg #[.int .i64 3, .int .i64 n, .slice bA bs.length bc]] w (SO W0 w gl g gr bl cl bd cd gp off T cs X x r V M) := by
  have h1 := Lib.hid (SH.begin_ h hb #[.int .i64 3, .int .i64 n, .slice bA bs.length bc])
  obtain ⟨w1, hw1⟩ : ∃ w1, w.alloc (.cells #[.int .i64 3, .int .i64 n, .slice bA bs.length bc] 65) = w1 := ⟨_, rfl⟩
  rw [hw1] at h1
  have hqne : gp ≠ w.heap.size := fun e => by have := h.xl gp hX; omega
  have d0 : w1.cell? ⟨w.heap.size, 0, none⟩ = some (.int .i64 3) := h1.out.ac.cell 0
  have d1 : w1.cell? ⟨w.heap.size, 1, none⟩ = some (.int .i64 n) := h1.out.ac.cell 1
  have d2 : w1.cell? ⟨w.heap.size, 2, none⟩ = some (.slice bA bs.length bc) := h1.out.ac.cell 2
  have p0 : w1.cell? ⟨gp, off, none⟩ = some (.pointer (some ⟨gl, 0, none⟩)) := (h1.out.at_.cell off).trans i0
  have p1 : w1.cell? ⟨gp, off + 1, none⟩ = some (.pointer (some ⟨gt, 0, none⟩)) := (h1.out.at_.cell (off + 1)).trans i1
  have p2 : w1.cell? ⟨gp, off + 2, none⟩ = some (.pointer (some ⟨gr, 0, none⟩)) := (h1.out.at_.cell (off + 2)).trans i2
  clear h hb
  have hi1 := Lib.hid i1
  have hi0 := Lib.hid i0
  have hi2 := Lib.hid i2
  have hof : x.d.off = false := hp.pq.of
  have hXh := Lib.hid hX
  have hsp := Lib.hid (SP.commit hp hf hpn.1 ht hop)
  have hC := Lib.hid (pCommit (h1.out.drew hX).pm hf (by omega) hp.k63 ⟨hpn.1, by omega⟩)
  have hrop := Lib.hid (ht.op.trans hop)
  have hr70 := Lib.hid ((ht.ts t rfl).2.2 hop).1
  have hrp := Lib.hid ht.pn
  have hpnh := Lib.hid hpn
  have hsyh := Lib.hid hsy
  obtain ⟨E, hE⟩ : ∃ E, Hid ((commitP 70 x t).1 = E) := ⟨_, Lib.hid rfl⟩
  rw [hE.out] at hC hsp
  clear i0 i1 i2 hp ht hsy hpn hv hqne hf hof hX hop hE
  by_cases hE0 : E = 0
  · have hEe : (E == 0) = true := beq_iff_eq.2 hE0
    rw [decide_eq_true hE0] at hsp
    replace hE0 := Lib.hid hE0
    go_enter Try.func37, Try.ntmps37
    go_wp2_with fail
    refine wp_mixs (fun W => Blk W gp T cs) [10, 15] (by kernel_rfl) (by kernel_rfl) (by kernel_rfl) (by decide) (show Blk w1.drew _ _ _ from h1.out.at_) ?_
    iterate 6 ((first | refine mixsq rfl rfl 0 (by decide +kernel) ?_ (fun w' hw' => Or.inl ?_) (fun K hK => ?_) | refine mixsq rfl rfl 1 (by decide +kernel) ?_ (fun w' hw' => Or.inl ?_) (fun K hK => ?_) | refine mixsq rfl rfl 2 (by decide +kernel) ?_ (fun w' hw' => Or.inl ?_) (fun K hK => ?_) | refine mixsq rfl rfl 3 (by decide +kernel) ?_ (fun w' hw' => Or.inl ?_) (fun K hK => ?_) | refine mixsq rfl rfl 4 (by decide +kernel) ?_ (fun w' hw' => Or.inl ?_) (fun K hK => ?_) | refine mixsq rfl rfl 5 (by decide +kernel) ?_ (fun w' hw' => Or.inl ?_) (fun K hK => ?_) | refine mixsq rfl rfl 6 (by decide +kernel) ?_ (fun w' hw' => Or.inl ?_) (fun K hK => ?_) | refine mixsq rfl rfl 7 (by decide +kernel) ?_ (fun w' hw' => Or.inl ?_) (fun K hK => ?_)); rotate_left; (focus (have hc : Blk w' gp T cs := hw'; have q1 : w'.cell? ⟨gp, off + 1, none⟩ = some (.pointer (some ⟨gt, 0, none⟩)) := (hc.cell (off + 1)).trans hi1.out; have q2 := (hc.cell (off + 2)).trans hi2.out; go_simp; rfl)); go_simp; refine hK _ ?_; clear hK K)
    iterate 4 ((first | refine mixsq_yes rfl (by first | rfl | kernel_rfl) 0 (by decide +kernel) ?_ (fun w' hw' => Or.inl ?_) (fun K hK => ?_) | refine mixsq_yes rfl (by first | rfl | kernel_rfl) 1 (by decide +kernel) ?_ (fun w' hw' => Or.inl ?_) (fun K hK => ?_) | refine mixsq_yes rfl (by first | rfl | kernel_rfl) 2 (by decide +kernel) ?_ (fun w' hw' => Or.inl ?_) (fun K hK => ?_) | refine mixsq_yes rfl (by first | rfl | kernel_rfl) 3 (by decide +kernel) ?_ (fun w' hw' => Or.inl ?_) (fun K hK => ?_) | refine mixsq_yes rfl (by first | rfl | kernel_rfl) 4 (by decide +kernel) ?_ (fun w' hw' => Or.inl ?_) (fun K hK => ?_) | refine mixsq_yes rfl (by first | rfl | kernel_rfl) 5 (by decide +kernel) ?_ (fun w' hw' => Or.inl ?_) (fun K hK => ?_) | refine mixsq_yes rfl (by first | rfl | kernel_rfl) 6 (by decide +kernel) ?_ (fun w' hw' => Or.inl ?_) (fun K hK => ?_) | refine mixsq_yes rfl (by first | rfl | kernel_rfl) 7 (by decide +kernel) ?_ (fun w' hw' => Or.inl ?_) (fun K hK => ?_)); rotate_left; (focus (have hc : Blk w' gp T cs := hw'; have q1 : w'.cell? ⟨gp, off + 1, none⟩ = some (.pointer (some ⟨gt, 0, none⟩)) := (hc.cell (off + 1)).trans hi1.out; have q2 := (hc.cell (off + 2)).trans hi2.out; go_simp; rfl)); go_simp; refine hK _ ?_; clear hK K)
    refine mixsl_yes rfl (by first | rfl | kernel_rfl) (fun K hK => ?_)
    go_simp
    refine hC.out.mono ?_
    rintro e w2 ⟨rfl, hg2, hc2⟩
    have h2 := Lib.hid ((h1.out.drew hXh.out).step hXh.out hg2 hc2)
    have hb2 := h2.out.at_
    refine hK (fun W => Blk W gp T cs) _ _ (fun _ => ⟨hb2, fun _ => hb2⟩) ?_
    clear hK K
    iterate 4 ((first | refine mixsq_yes rfl (by first | rfl | kernel_rfl) 0 (by decide +kernel) ?_ (fun w' hw' => Or.inl ?_) (fun K hK => ?_) | refine mixsq_yes rfl (by first | rfl | kernel_rfl) 1 (by decide +kernel) ?_ (fun w' hw' => Or.inl ?_) (fun K hK => ?_) | refine mixsq_yes rfl (by first | rfl | kernel_rfl) 2 (by decide +kernel) ?_ (fun w' hw' => Or.inl ?_) (fun K hK => ?_) | refine mixsq_yes rfl (by first | rfl | kernel_rfl) 3 (by decide +kernel) ?_ (fun w' hw' => Or.inl ?_) (fun K hK => ?_) | refine mixsq_yes rfl (by first | rfl | kernel_rfl) 4 (by decide +kernel) ?_ (fun w' hw' => Or.inl ?_) (fun K hK => ?_) | refine mixsq_yes rfl (by first | rfl | kernel_rfl) 5 (by decide +kernel) ?_ (fun w' hw' => Or.inl ?_) (fun K hK => ?_) | refine mixsq_yes rfl (by first | rfl | kernel_rfl) 6 (by decide +kernel) ?_ (fun w' hw' => Or.inl ?_) (fun K hK => ?_) | refine mixsq_yes rfl (by first | rfl | kernel_rfl) 7 (by decide +kernel) ?_ (fun w' hw' => Or.inl ?_) (fun K hK => ?_)); rotate_left; (focus (have hc : Blk w' gp T cs := hw'; have q1 : w'.cell? ⟨gp, off + 1, none⟩ = some (.pointer (some ⟨gt, 0, none⟩)) := (hc.cell (off + 1)).trans hi1.out; have q2 := (hc.cell (off + 2)).trans hi2.out; go_simp; rfl)); go_simp; refine hK _ ?_; clear hK K)
    refine mixsl_yes rfl (by first | rfl | kernel_rfl) (fun K hK => ?_)
    go_simp
    refine (RCommit_calls w2 h2.out.pm.rg hrop.out hr70.out ⟨hsyh.out.1, by have := hsyh.out; omega⟩ (by rw [hrp.out]; have := hpnh.out; omega)).mono ?_
    rintro e w3 ⟨rfl, hg3, hc3⟩
    have h3 := Lib.hid (h2.out.ref hXh.out hc3 hg3 (fun k hk => .inl hk))
    have hb3 := h3.out.at_
    refine hK (fun W => Blk W gp T cs) _ _ (fun _ => ⟨hb3, ext_all (fun _ => hb3) hb3⟩) ?_
    clear hK K
    (first | refine mixsq_yes rfl (by first | rfl | kernel_rfl) 0 (by decide +kernel) ?_ (fun w' hw' => Or.inl ?_) (fun K hK => ?_) | refine mixsq_yes rfl (by first | rfl | kernel_rfl) 1 (by decide +kernel) ?_ (fun w' hw' => Or.inl ?_) (fun K hK => ?_) | refine mixsq_yes rfl (by first | rfl | kernel_rfl) 2 (by decide +kernel) ?_ (fun w' hw' => Or.inl ?_) (fun K hK => ?_) | refine mixsq_yes rfl (by first | rfl | kernel_rfl) 3 (by decide +kernel) ?_ (fun w' hw' => Or.inl ?_) (fun K hK => ?_) | refine mixsq_yes rfl (by first | rfl | kernel_rfl) 4 (by decide +kernel) ?_ (fun w' hw' => Or.inl ?_) (fun K hK => ?_) | refine mixsq_yes rfl (by first | rfl | kernel_rfl) 5 (by decide +kernel) ?_ (fun w' hw' => Or.inl ?_) (fun K hK => ?_) | refine mixsq_yes rfl (by first | rfl | kernel_rfl) 6 (by decide +kernel) ?_ (fun w' hw' => Or.inl ?_) (fun K hK => ?_) | refine mixsq_yes rfl (by first | rfl | kernel_rfl) 7 (by decide +kernel) ?_ (fun w' hw' => Or.inl ?_) (fun K hK => ?_)); rotate_left; (focus (go_simp; rfl)); go_simp; refine hK _ ?_; clear hK K
    iterate 2 ((first | refine mixsq rfl rfl 0 (by decide +kernel) ?_ (fun w' hw' => Or.inl ?_) (fun K hK => ?_) | refine mixsq rfl rfl 1 (by decide +kernel) ?_ (fun w' hw' => Or.inl ?_) (fun K hK => ?_) | refine mixsq rfl rfl 2 (by decide +kernel) ?_ (fun w' hw' => Or.inl ?_) (fun K hK => ?_) | refine mixsq rfl rfl 3 (by decide +kernel) ?_ (fun w' hw' => Or.inl ?_) (fun K hK => ?_) | refine mixsq rfl rfl 4 (by decide +kernel) ?_ (fun w' hw' => Or.inl ?_) (fun K hK => ?_) | refine mixsq rfl rfl 5 (by decide +kernel) ?_ (fun w' hw' => Or.inl ?_) (fun K hK => ?_) | refine mixsq rfl rfl 6 (by decide +kernel) ?_ (fun w' hw' => Or.inl ?_) (fun K hK => ?_) | refine mixsq rfl rfl 7 (by decide +kernel) ?_ (fun w' hw' => Or.inl ?_) (fun K hK => ?_)); rotate_left; (focus (go_simp; rfl)); go_simp; refine hK _ ?_; clear hK K)
    refine mixs_nil ?_
    have hfin : Hid (SO W0 w gl g gr bl cl bd cd gp off T cs X x r V M (.returned (.bool true)) w3) := Lib.hid ⟨_, _, some (gt, (commitP 70 x t).2.2), nv, _, rfl, h3.out.pm.less (fun k hk => .inl hk), by rw [set_same (u := tptr (some (gt, (commitP 70 x t).2.2))) hi1.out]; exact h3.out.at_, h3.out.kp, hsp.out⟩
    clear hg3 hc3 h3 hsp hb3 hg2 hc2 h2 hb2 h1 hC
    go_wp2
    go_ret
    exact hfin.out
  · have hEe : (E == 0) = false := beq_eq_false_iff_ne.2 hE0
    rw [decide_eq_false hE0] at hsp
    replace hE0 := Lib.hid hE0
    go_enter Try.func37, Try.ntmps37
    go_wp2_with fail
    refine wp_mixs (fun W => Blk W gp T cs) [10, 15] (by kernel_rfl) (by kernel_rfl) (by kernel_rfl) (by decide) (show Blk w1.drew _ _ _ from h1.out.at_) ?_
    iterate 6 ((first | refine mixsq rfl rfl 0 (by decide +kernel) ?_ (fun w' hw' => Or.inl ?_) (fun K hK => ?_) | refine mixsq rfl rfl 1 (by decide +kernel) ?_ (fun w' hw' => Or.inl ?_) (fun K hK => ?_) | refine mixsq rfl rfl 2 (by decide +kernel) ?_ (fun w' hw' => Or.inl ?_) (fun K hK => ?_) | refine mixsq rfl rfl 3 (by decide +kernel) ?_ (fun w' hw' => Or.inl ?_) (fun K hK => ?_) | refine mixsq rfl rfl 4 (by decide +kernel) ?_ (fun w' hw' => Or.inl ?_) (fun K hK => ?_) | refine mixsq rfl rfl 5 (by decide +kernel) ?_ (fun w' hw' => Or.inl ?_) (fun K hK => ?_) | refine mixsq rfl rfl 6 (by decide +kernel) ?_ (fun w' hw' => Or.inl ?_) (fun K hK => ?_) | refine mixsq rfl rfl 7 (by decide +kernel) ?_ (fun w' hw' => Or.inl ?_) (fun K hK => ?_)); rotate_left; (focus (have hc : Blk w' gp T cs := hw'; have q1 : w'.cell? ⟨gp, off + 1, none⟩ = some (.pointer (some ⟨gt, 0, none⟩)) := (hc.cell (off + 1)).trans hi1.out; have q2 := (hc.cell (off + 2)).trans hi2.out; go_simp; rfl)); go_simp; refine hK _ ?_; clear hK K)
    iterate 4 ((first | refine mixsq_yes rfl (by first | rfl | kernel_rfl) 0 (by decide +kernel) ?_ (fun w' hw' => Or.inl ?_) (fun K hK => ?_) | refine mixsq_yes rfl (by first | rfl | kernel_rfl) 1 (by decide +kernel) ?_ (fun w' hw' => Or.inl ?_) (fun K hK => ?_) | refine mixsq_yes rfl (by first | rfl | kernel_rfl) 2 (by decide +kernel) ?_ (fun w' hw' => Or.inl ?_) (fun K hK => ?_) | refine mixsq_yes rfl (by first | rfl | kernel_rfl) 3 (by decide +kernel) ?_ (fun w' hw' => Or.inl ?_) (fun K hK => ?_) | refine mixsq_yes rfl (by first | rfl | kernel_rfl) 4 (by decide +kernel) ?_ (fun w' hw' => Or.inl ?_) (fun K hK => ?_) | refine mixsq_yes rfl (by first | rfl | kernel_rfl) 5 (by decide +kernel) ?_ (fun w' hw' => Or.inl ?_) (fun K hK => ?_) | refine mixsq_yes rfl (by first | rfl | kernel_rfl) 6 (by decide +kernel) ?_ (fun w' hw' => Or.inl ?_) (fun K hK => ?_) | refine mixsq_yes rfl (by first | rfl | kernel_rfl) 7 (by decide +kernel) ?_ (fun w' hw' => Or.inl ?_) (fun K hK => ?_)); rotate_left; (focus (have hc : Blk w' gp T cs := hw'; have q1 : w'.cell? ⟨gp, off + 1, none⟩ = some (.pointer (some ⟨gt, 0, none⟩)) := (hc.cell (off + 1)).trans hi1.out; have q2 := (hc.cell (off + 2)).trans hi2.out; go_simp; rfl)); go_simp; refine hK _ ?_; clear hK K)
    refine mixsl_yes rfl (by first | rfl | kernel_rfl) (fun K hK => ?_)
    go_simp
    refine hC.out.mono ?_
    rintro e w2 ⟨rfl, hg2, hc2⟩
    have h2 := Lib.hid ((h1.out.drew hXh.out).step hXh.out hg2 hc2)
    have hb2 := h2.out.at_
    refine hK (fun W => Blk W gp T cs) _ _ (fun _ => ⟨hb2, fun _ => hb2⟩) ?_
    clear hK K
    iterate 4 ((first | refine mixsq_yes rfl (by first | rfl | kernel_rfl) 0 (by decide +kernel) ?_ (fun w' hw' => Or.inl ?_) (fun K hK => ?_) | refine mixsq_yes rfl (by first | rfl | kernel_rfl) 1 (by decide +kernel) ?_ (fun w' hw' => Or.inl ?_) (fun K hK => ?_) | refine mixsq_yes rfl (by first | rfl | kernel_rfl) 2 (by decide +kernel) ?_ (fun w' hw' => Or.inl ?_) (fun K hK => ?_) | refine mixsq_yes rfl (by first | rfl | kernel_rfl) 3 (by decide +kernel) ?_ (fun w' hw' => Or.inl ?_) (fun K hK => ?_) | refine mixsq_yes rfl (by first | rfl | kernel_rfl) 4 (by decide +kernel) ?_ (fun w' hw' => Or.inl ?_) (fun K hK => ?_) | refine mixsq_yes rfl (by first | rfl | kernel_rfl) 5 (by decide +kernel) ?_ (fun w' hw' => Or.inl ?_) (fun K hK => ?_) | refine mixsq_yes rfl (by first | rfl | kernel_rfl) 6 (by decide +kernel) ?_ (fun w' hw' => Or.inl ?_) (fun K hK => ?_) | refine mixsq_yes rfl (by first | rfl | kernel_rfl) 7 (by decide +kernel) ?_ (fun w' hw' => Or.inl ?_) (fun K hK => ?_)); rotate_left; (focus (have hc : Blk w' gp T cs := hw'; have q1 : w'.cell? ⟨gp, off + 1, none⟩ = some (.pointer (some ⟨gt, 0, none⟩)) := (hc.cell (off + 1)).trans hi1.out; have q2 := (hc.cell (off + 2)).trans hi2.out; go_simp; rfl)); go_simp; refine hK _ ?_; clear hK K)
    refine mixsl_yes rfl (by first | rfl | kernel_rfl) (fun K hK => ?_)
    go_simp
    refine (RCommit_calls w2 h2.out.pm.rg hrop.out hr70.out ⟨hsyh.out.1, by have := hsyh.out; omega⟩ (by rw [hrp.out]; have := hpnh.out; omega)).mono ?_
    rintro e w3 ⟨rfl, hg3, hc3⟩
    have h3 := Lib.hid (h2.out.ref hXh.out hc3 hg3 (fun k hk => .inl hk))
    have hb3 := h3.out.at_
    refine hK (fun W => Blk W gp T cs) _ _ (fun _ => ⟨hb3, ext_all (fun _ => hb3) hb3⟩) ?_
    clear hK K
    (first | refine mixsq_yes rfl (by first | rfl | kernel_rfl) 0 (by decide +kernel) ?_ (fun w' hw' => Or.inl ?_) (fun K hK => ?_) | refine mixsq_yes rfl (by first | rfl | kernel_rfl) 1 (by decide +kernel) ?_ (fun w' hw' => Or.inl ?_) (fun K hK => ?_) | refine mixsq_yes rfl (by first | rfl | kernel_rfl) 2 (by decide +kernel) ?_ (fun w' hw' => Or.inl ?_) (fun K hK => ?_) | refine mixsq_yes rfl (by first | rfl | kernel_rfl) 3 (by decide +kernel) ?_ (fun w' hw' => Or.inl ?_) (fun K hK => ?_) | refine mixsq_yes rfl (by first | rfl | kernel_rfl) 4 (by decide +kernel) ?_ (fun w' hw' => Or.inl ?_) (fun K hK => ?_) | refine mixsq_yes rfl (by first | rfl | kernel_rfl) 5 (by decide +kernel) ?_ (fun w' hw' => Or.inl ?_) (fun K hK => ?_) | refine mixsq_yes rfl (by first | rfl | kernel_rfl) 6 (by decide +kernel) ?_ (fun w' hw' => Or.inl ?_) (fun K hK => ?_) | refine mixsq_yes rfl (by first | rfl | kernel_rfl) 7 (by decide +kernel) ?_ (fun w' hw' => Or.inl ?_) (fun K hK => ?_)); rotate_left; (focus (go_simp; rfl)); go_simp; refine hK _ ?_; clear hK K
    iterate 2 ((first | refine mixsq rfl rfl 0 (by decide +kernel) ?_ (fun w' hw' => Or.inl ?_) (fun K hK => ?_) | refine mixsq rfl rfl 1 (by decide +kernel) ?_ (fun w' hw' => Or.inl ?_) (fun K hK => ?_) | refine mixsq rfl rfl 2 (by decide +kernel) ?_ (fun w' hw' => Or.inl ?_) (fun K hK => ?_) | refine mixsq rfl rfl 3 (by decide +kernel) ?_ (fun w' hw' => Or.inl ?_) (fun K hK => ?_) | refine mixsq rfl rfl 4 (by decide +kernel) ?_ (fun w' hw' => Or.inl ?_) (fun K hK => ?_) | refine mixsq rfl rfl 5 (by decide +kernel) ?_ (fun w' hw' => Or.inl ?_) (fun K hK => ?_) | refine mixsq rfl rfl 6 (by decide +kernel) ?_ (fun w' hw' => Or.inl ?_) (fun K hK => ?_) | refine mixsq rfl rfl 7 (by decide +kernel) ?_ (fun w' hw' => Or.inl ?_) (fun K hK => ?_)); rotate_left; (focus (go_simp; rfl)); go_simp; refine hK _ ?_; clear hK K)
    refine mixs_nil ?_
    have hfin : Hid (SO W0 w gl g gr bl cl bd cd gp off T cs X x r V M (.returned (.bool false)) w3) := Lib.hid ⟨_, _, some (gt, (commitP 70 x t).2.2), nv, _, rfl, h3.out.pm.less (fun k hk => .inl hk), by rw [set_same (u := tptr (some (gt, (commitP 70 x t).2.2))) hi1.out]; exact h3.out.at_, h3.out.kp, hsp.out⟩
    clear hg3 hc3 h3 hsp hb3 hg2 hc2 h2 hb2 h1 hC
    go_wp2
    go_ret
    exact hfin.out
set_option linter.unusedVariables false in
set_option maxRecDepth 100000 in
set_option maxHeartbeats 8000000 in
theorem step3s {W0 w : World} {gl g gr bl cl bd cd gp off T : Nat} {cs : Array Value} {X : Nat → Prop} {x : Lk} {gt : Nat} {t : Tk} {nv : Value} {r : Rl} {V : Nat → List UInt8} {M : Nat} (h : PM W0 w gl g x (some (gt, t)) gr bl cl bd cd nv r X) (hb : Blk w gp T cs) (i0 : cs[off]? = some (.pointer (some ⟨gl, 0, none⟩))) (i1 : cs[off + 1]? = some (tptr (some (gt, t)))) (i2 : cs[off + 2]? = some (.pointer (some ⟨gr, 0, none⟩))) (hX : X gp) (hg : W0.heap.size ≤ gp) (hT : 5 ≠ T ∧ 3 ≠ T) (hp : PA x V) (ht : Tie x V (some t) r) (hf : Fit 135 M x.d) (hM : M ≤ 700000000) (hpn : 0 ≤ x.pn ∧ x.pn ≤ 1000000) (hsy : 0 ≤ r.sy ∧ r.sy ≤ 1000000) (n : Int) (hn : -9223372036854775808 ≤ n ∧ n ≤ 9223372036854775807) (bA : Option Addr) (bc : Nat) (bs : List UInt8) (hv : Rd W0 (.slice bA bs.length bc) (bvs bs)) (hbl : bs.length ≤ 64) (hop : x.op = false) : Calls Try.prog 37 #[.pointer (some ⟨gp, off, none⟩), .agg #[.int .i64 3, .int .i64 n, .slice bA bs.length bc]] w (SO W0 w gl g gr bl cl bd cd gp off T cs X x r V M) := by
  have h1 := Lib.hid (SH.begin_ h hb #[.int .i64 3, .int .i64 n, .slice bA bs.length bc])
  obtain ⟨w1, hw1⟩ : ∃ w1, w.alloc (.cells #[.int .i64 3, .int .i64 n, .slice bA bs.length bc] 65) = w1 := ⟨_, rfl⟩
  rw [hw1] at h1
  have hqne : gp ≠ w.heap.size := fun e => by have := h.xl gp hX; omega
  have d0 : w1.cell? ⟨w.heap.size, 0, none⟩ = some (.int .i64 3) := h1.out.ac.cell 0
  have d1 : w1.cell? ⟨w.heap.size, 1, none⟩ = some (.int .i64 n) := h1.out.ac.cell 1
  have d2 : w1.cell? ⟨w.heap.size, 2, none⟩ = some (.slice bA bs.length bc) := h1.out.ac.cell 2
  have p0 : w1.cell? ⟨gp, off, none⟩ = some (.pointer (some ⟨gl, 0, none⟩)) := (h1.out.at_.cell off).trans i0
  have p1 : w1.cell? ⟨gp, off + 1, none⟩ = some (.pointer (some ⟨gt, 0, none⟩)) := (h1.out.at_.cell (off + 1)).trans i1
  have p2 : w1.cell? ⟨gp, off + 2, none⟩ = some (.pointer (some ⟨gr, 0, none⟩)) := (h1.out.at_.cell (off + 2)).trans i2
  clear h hb
  have hi1 := Lib.hid i1
  have hi0 := Lib.hid i0
  have hi2 := Lib.hid i2
  have hof : x.d.off = false := hp.pq.of
  have hXh := Lib.hid hX
  have hC := pCommit (h1.out.drew hX).pm hf (by omega) hp.k63 ⟨hpn.1, by omega⟩
  have hrop := Lib.hid (ht.op.trans hop)
  have hE : commitP 70 x t = (15, x, t) := by
    unfold commitP
    rw [if_pos (by rw [(ht.ts t rfl).1, hop]; rfl)]
  rw [hE] at hC
  have hC := Lib.hid hC
  have hsp := Lib.hid (SP.quiet (x' := x) (r' := r) hp hf hpn.1 rfl rfl rfl ht rfl)
  clear i0 i1 i2 hp ht hsy hpn hv hqne hf hof hX hop hE
  go_enter Try.func37, Try.ntmps37
  go_wp2_with fail
  refine wp_mixs (fun W => Blk W gp T cs) [10, 15] (by kernel_rfl) (by kernel_rfl) (by kernel_rfl) (by decide) (show Blk w1.drew _ _ _ from h1.out.at_) ?_
  iterate 6 ((first | refine mixsq rfl rfl 0 (by decide +kernel) ?_ (fun w' hw' => Or.inl ?_) (fun K hK => ?_) | refine mixsq rfl rfl 1 (by decide +kernel) ?_ (fun w' hw' => Or.inl ?_) (fun K hK => ?_) | refine mixsq rfl rfl 2 (by decide +kernel) ?_ (fun w' hw' => Or.inl ?_) (fun K hK => ?_) | refine mixsq rfl rfl 3 (by decide +kernel) ?_ (fun w' hw' => Or.inl ?_) (fun K hK => ?_) | refine mixsq rfl rfl 4 (by decide +kernel) ?_ (fun w' hw' => Or.inl ?_) (fun K hK => ?_) | refine mixsq rfl rfl 5 (by decide +kernel) ?_ (fun w' hw' => Or.inl ?_) (fun K hK => ?_) | refine mixsq rfl rfl 6 (by decide +kernel) ?_ (fun w' hw' => Or.inl ?_) (fun K hK => ?_) | refine mixsq rfl rfl 7 (by decide +kernel) ?_ (fun w' hw' => Or.inl ?_) (fun K hK => ?_)); rotate_left; (focus (have hc : Blk w' gp T cs := hw'; have q1 : w'.cell? ⟨gp, off + 1, none⟩ = some (.pointer (some ⟨gt, 0, none⟩)) := (hc.cell (off + 1)).trans hi1.out; have q2 := (hc.cell (off + 2)).trans hi2.out; go_simp; rfl)); go_simp; refine hK _ ?_; clear hK K)
  iterate 4 ((first | refine mixsq_yes rfl (by first | rfl | kernel_rfl) 0 (by decide +kernel) ?_ (fun w' hw' => Or.inl ?_) (fun K hK => ?_) | refine mixsq_yes rfl (by first | rfl | kernel_rfl) 1 (by decide +kernel) ?_ (fun w' hw' => Or.inl ?_) (fun K hK => ?_) | refine mixsq_yes rfl (by first | rfl | kernel_rfl) 2 (by decide +kernel) ?_ (fun w' hw' => Or.inl ?_) (fun K hK => ?_) | refine mixsq_yes rfl (by first | rfl | kernel_rfl) 3 (by decide +kernel) ?_ (fun w' hw' => Or.inl ?_) (fun K hK => ?_) | refine mixsq_yes rfl (by first | rfl | kernel_rfl) 4 (by decide +kernel) ?_ (fun w' hw' => Or.inl ?_) (fun K hK => ?_) | refine mixsq_yes rfl (by first | rfl | kernel_rfl) 5 (by decide +kernel) ?_ (fun w' hw' => Or.inl ?_) (fun K hK => ?_) | refine mixsq_yes rfl (by first | rfl | kernel_rfl) 6 (by decide +kernel) ?_ (fun w' hw' => Or.inl ?_) (fun K hK => ?_) | refine mixsq_yes rfl (by first | rfl | kernel_rfl) 7 (by decide +kernel) ?_ (fun w' hw' => Or.inl ?_) (fun K hK => ?_)); rotate_left; (focus (have hc : Blk w' gp T cs := hw'; have q1 : w'.cell? ⟨gp, off + 1, none⟩ = some (.pointer (some ⟨gt, 0, none⟩)) := (hc.cell (off + 1)).trans hi1.out; have q2 := (hc.cell (off + 2)).trans hi2.out; go_simp; rfl)); go_simp; refine hK _ ?_; clear hK K)
  refine mixsl_yes rfl (by first | rfl | kernel_rfl) (fun K hK => ?_)
  go_simp
  refine hC.out.mono ?_
  rintro e w2 ⟨rfl, hg2, hc2⟩
  have h2 := Lib.hid ((h1.out.drew hXh.out).step hXh.out hg2 hc2)
  have hb2 := h2.out.at_
  refine hK (fun W => Blk W gp T cs) _ _ (fun _ => ⟨hb2, fun _ => hb2⟩) ?_
  clear hK K
  iterate 4 ((first | refine mixsq_yes rfl (by first | rfl | kernel_rfl) 0 (by decide +kernel) ?_ (fun w' hw' => Or.inl ?_) (fun K hK => ?_) | refine mixsq_yes rfl (by first | rfl | kernel_rfl) 1 (by decide +kernel) ?_ (fun w' hw' => Or.inl ?_) (fun K hK => ?_) | refine mixsq_yes rfl (by first | rfl | kernel_rfl) 2 (by decide +kernel) ?_ (fun w' hw' => Or.inl ?_) (fun K hK => ?_) | refine mixsq_yes rfl (by first | rfl | kernel_rfl) 3 (by decide +kernel) ?_ (fun w' hw' => Or.inl ?_) (fun K hK => ?_) | refine mixsq_yes rfl (by first | rfl | kernel_rfl) 4 (by decide +kernel) ?_ (fun w' hw' => Or.inl ?_) (fun K hK => ?_) | refine mixsq_yes rfl (by first | rfl | kernel_rfl) 5 (by decide +kernel) ?_ (fun w' hw' => Or.inl ?_) (fun K hK => ?_) | refine mixsq_yes rfl (by first | rfl | kernel_rfl) 6 (by decide +kernel) ?_ (fun w' hw' => Or.inl ?_) (fun K hK => ?_) | refine mixsq_yes rfl (by first | rfl | kernel_rfl) 7 (by decide +kernel) ?_ (fun w' hw' => Or.inl ?_) (fun K hK => ?_)); rotate_left; (focus (have hc : Blk w' gp T cs := hw'; have q1 : w'.cell? ⟨gp, off + 1, none⟩ = some (.pointer (some ⟨gt, 0, none⟩)) := (hc.cell (off + 1)).trans hi1.out; have q2 := (hc.cell (off + 2)).trans hi2.out; go_simp; rfl)); go_simp; refine hK _ ?_; clear hK K)
  refine mixsl_yes rfl (by first | rfl | kernel_rfl) (fun K hK => ?_)
  go_simp
  refine (RCommit_shut w2 h2.out.pm.rg hrop.out).mono ?_
  rintro e w3 ⟨rfl, rfl⟩
  have h3 := h2
  have hb3 := hb2
  refine hK (fun W => Blk W gp T cs) _ _ (fun _ => ⟨hb3, ext_all (fun _ => hb3) hb3⟩) ?_
  clear hK K
  (first | refine mixsq_yes rfl (by first | rfl | kernel_rfl) 0 (by decide +kernel) ?_ (fun w' hw' => Or.inl ?_) (fun K hK => ?_) | refine mixsq_yes rfl (by first | rfl | kernel_rfl) 1 (by decide +kernel) ?_ (fun w' hw' => Or.inl ?_) (fun K hK => ?_) | refine mixsq_yes rfl (by first | rfl | kernel_rfl) 2 (by decide +kernel) ?_ (fun w' hw' => Or.inl ?_) (fun K hK => ?_) | refine mixsq_yes rfl (by first | rfl | kernel_rfl) 3 (by decide +kernel) ?_ (fun w' hw' => Or.inl ?_) (fun K hK => ?_) | refine mixsq_yes rfl (by first | rfl | kernel_rfl) 4 (by decide +kernel) ?_ (fun w' hw' => Or.inl ?_) (fun K hK => ?_) | refine mixsq_yes rfl (by first | rfl | kernel_rfl) 5 (by decide +kernel) ?_ (fun w' hw' => Or.inl ?_) (fun K hK => ?_) | refine mixsq_yes rfl (by first | rfl | kernel_rfl) 6 (by decide +kernel) ?_ (fun w' hw' => Or.inl ?_) (fun K hK => ?_) | refine mixsq_yes rfl (by first | rfl | kernel_rfl) 7 (by decide +kernel) ?_ (fun w' hw' => Or.inl ?_) (fun K hK => ?_)); rotate_left; (focus (go_simp; rfl)); go_simp; refine hK _ ?_; clear hK K
  iterate 2 ((first | refine mixsq rfl rfl 0 (by decide +kernel) ?_ (fun w' hw' => Or.inl ?_) (fun K hK => ?_) | refine mixsq rfl rfl 1 (by decide +kernel) ?_ (fun w' hw' => Or.inl ?_) (fun K hK => ?_) | refine mixsq rfl rfl 2 (by decide +kernel) ?_ (fun w' hw' => Or.inl ?_) (fun K hK => ?_) | refine mixsq rfl rfl 3 (by decide +kernel) ?_ (fun w' hw' => Or.inl ?_) (fun K hK => ?_) | refine mixsq rfl rfl 4 (by decide +kernel) ?_ (fun w' hw' => Or.inl ?_) (fun K hK => ?_) | refine mixsq rfl rfl 5 (by decide +kernel) ?_ (fun w' hw' => Or.inl ?_) (fun K hK => ?_) | refine mixsq rfl rfl 6 (by decide +kernel) ?_ (fun w' hw' => Or.inl ?_) (fun K hK => ?_) | refine mixsq rfl rfl 7 (by decide +kernel) ?_ (fun w' hw' => Or.inl ?_) (fun K hK => ?_)); rotate_left; (focus (go_simp; rfl)); go_simp; refine hK _ ?_; clear hK K)
  refine mixs_nil ?_
  have hfin : Hid (SO W0 w gl g gr bl cl bd cd gp off T cs X x r V M (.returned (.bool true)) w2) := Lib.hid ⟨_, _, some (gt, t), nv, _, rfl, h3.out.pm.less (fun k hk => .inl hk), by rw [set_same hi1.out]; exact h3.out.at_, h3.out.kp, hsp.out⟩
  clear h3 hsp hb3 hg2 hc2 h2 hb2 h1 hC
  go_wp2
  go_ret
  exact hfin.out
set_option linter.unusedVariables false in
set_option maxRecDepth 100000 in
set_option maxHeartbeats 8000000 in
theorem step6i {W0 w : World} {gl g gr bl cl bd cd gp off T : Nat} {cs : Array Value} {X : Nat → Prop} {x : Lk} {ot : Option (Nat × Tk)} {nv : Value} {r : Rl} {V : Nat → List UInt8} {M : Nat} (h : PM W0 w gl g x (ot) gr bl cl bd cd nv r X) (hb : Blk w gp T cs) (i0 : cs[off]? = some (.pointer (some ⟨gl, 0, none⟩))) (i1 : cs[off + 1]? = some (tptr (ot))) (i2 : cs[off + 2]? = some (.pointer (some ⟨gr, 0, none⟩))) (hX : X gp) (hg : W0.heap.size ≤ gp) (hT : 5 ≠ T ∧ 3 ≠ T) (hp : PA x V) (ht : Tie x V (ot.map Prod.snd) r) (hf : Fit 135 M x.d) (hM : M ≤ 700000000) (hpn : 0 ≤ x.pn ∧ x.pn ≤ 1000000) (hsy : 0 ≤ r.sy ∧ r.sy ≤ 1000000) (n : Int) (hn : -9223372036854775808 ≤ n ∧ n ≤ 9223372036854775807) (bA : Option Addr) (bc : Nat) (bs : List UInt8) (hv : Rd W0 (.slice bA bs.length bc) (bvs bs)) (hbl : bs.length ≤ 64) (hin : 0 ≤ n ∧ n < 70) : Calls Try.prog 37 #[.pointer (some ⟨gp, off, none⟩), .agg #[.int .i64 6, .int .i64 n, .slice bA bs.length bc]] w (SO W0 w gl g gr bl cl bd cd gp off T cs X x r V M) := by
  have h1 := Lib.hid (SH.begin_ h hb #[.int .i64 6, .int .i64 n, .slice bA bs.length bc])
  obtain ⟨w1, hw1⟩ : ∃ w1, w.alloc (.cells #[.int .i64 6, .int .i64 n, .slice bA bs.length bc] 65) = w1 := ⟨_, rfl⟩
  rw [hw1] at h1
  have hqne : gp ≠ w.heap.size := fun e => by have := h.xl gp hX; omega
  have d0 : w1.cell? ⟨w.heap.size, 0, none⟩ = some (.int .i64 6) := h1.out.ac.cell 0
  have d1 : w1.cell? ⟨w.heap.size, 1, none⟩ = some (.int .i64 n) := h1.out.ac.cell 1
  have d2 : w1.cell? ⟨w.heap.size, 2, none⟩ = some (.slice bA bs.length bc) := h1.out.ac.cell 2
  have p0 : w1.cell? ⟨gp, off, none⟩ = some (.pointer (some ⟨gl, 0, none⟩)) := (h1.out.at_.cell off).trans i0
  have p1 : w1.cell? ⟨gp, off + 1, none⟩ = some (tptr ot) := (h1.out.at_.cell (off + 1)).trans i1
  have p2 : w1.cell? ⟨gp, off + 2, none⟩ = some (.pointer (some ⟨gr, 0, none⟩)) := (h1.out.at_.cell (off + 2)).trans i2
  clear h hb
  have hi1 := Lib.hid i1
  have hi0 := Lib.hid i0
  have hi2 := Lib.hid i2
  have hof : x.d.off = false := hp.pq.of
  have hXh := Lib.hid hX
  have hsp := Lib.hid (SP.quiet (x' := x) (r' := r) hp hf hpn.1 rfl rfl rfl ht rfl)
  have hRd := pRead (h1.out.drew hX).pm hf (by omega) n
  rw [hp.readE, if_pos hin] at hRd
  obtain ⟨k, rfl⟩ := Int.eq_ofNat_of_zero_le hin.1
  have hk : k < 70 := by omega
  rw [Int.toNat_natCast, hp.val hk] at hRd
  obtain ⟨Y, hY⟩ : ∃ Y, Hid (datP x V k = Y) := ⟨_, Lib.hid rfl⟩
  have hrl := ht.L k hk
  rw [hY.out] at hRd hrl
  have hrl := Lib.hid hrl
  have hY5 : Hid (Y.length = 512) := by show _ = _; rw [← hY.out]; exact hp.d5 hk
  have hRd := Lib.hid hRd
  have hpm1 := Lib.hid h1.out.pm
  clear i0 i1 i2 hp ht hsy hpn hv hqne hf hof hX
  go_enter Try.func37, Try.ntmps37
  go_wp2_with fail
  refine wp_mixs (fun W => Below w1.heap.size w1 W) [6] (by kernel_rfl) (by kernel_rfl) (by kernel_rfl) (by decide) ((Below.refl _ _).drew) ?_
  iterate 6 ((first | refine mixsq rfl rfl 0 (by decide +kernel) ?_ (fun w' hw' => Or.inl ?_) (fun K hK => ?_) | refine mixsq rfl rfl 1 (by decide +kernel) ?_ (fun w' hw' => Or.inl ?_) (fun K hK => ?_) | refine mixsq rfl rfl 2 (by decide +kernel) ?_ (fun w' hw' => Or.inl ?_) (fun K hK => ?_) | refine mixsq rfl rfl 3 (by decide +kernel) ?_ (fun w' hw' => Or.inl ?_) (fun K hK => ?_) | refine mixsq rfl rfl 4 (by decide +kernel) ?_ (fun w' hw' => Or.inl ?_) (fun K hK => ?_) | refine mixsq rfl rfl 5 (by decide +kernel) ?_ (fun w' hw' => Or.inl ?_) (fun K hK => ?_) | refine mixsq rfl rfl 6 (by decide +kernel) ?_ (fun w' hw' => Or.inl ?_) (fun K hK => ?_) | refine mixsq rfl rfl 7 (by decide +kernel) ?_ (fun w' hw' => Or.inl ?_) (fun K hK => ?_)); rotate_left; (focus (have hb : Below w1.heap.size w1 w' := hw'; have hs := h1.out.below hXh.out hb; have q0 := (hs.at_.cell off).trans hi0.out; have a1 : w'.cell? ⟨w.heap.size, 1, none⟩ = some (.int .i64 (k : Int)) := hs.ac.cell 1; go_simp; rfl)); go_simp; refine hK _ ?_; clear hK K)
  refine mixsl rfl rfl (fun K hK => ?_)
  go_simp
  refine hRd.out.mono ?_
  intro e w2 hr
  obtain ⟨bx, cx, rfl, hx, hxb, hx1, hx2⟩ := hr.ok rfl hY5.out
  have hx12 : Below w1.heap.size w1 w2 := ⟨hxb.os, hxb.tape, hxb.output, hxb.size, hxb.block⟩
  have hR2 := Lib.hid (Rd.of_own hx)
  have h2 := Lib.hid (h1.out.below hXh.out hx12)
  refine hK (fun W => Below w1.heap.size w1 W) _ _ (fun _ => ⟨hx12, fun _ => hx12⟩) ?_
  clear hK K
  iterate 5 ((first | refine mixsq rfl rfl 0 (by decide +kernel) ?_ (fun w' hw' => Or.inl ?_) (fun K hK => ?_) | refine mixsq rfl rfl 1 (by decide +kernel) ?_ (fun w' hw' => Or.inl ?_) (fun K hK => ?_) | refine mixsq rfl rfl 2 (by decide +kernel) ?_ (fun w' hw' => Or.inl ?_) (fun K hK => ?_) | refine mixsq rfl rfl 3 (by decide +kernel) ?_ (fun w' hw' => Or.inl ?_) (fun K hK => ?_) | refine mixsq rfl rfl 4 (by decide +kernel) ?_ (fun w' hw' => Or.inl ?_) (fun K hK => ?_) | refine mixsq rfl rfl 5 (by decide +kernel) ?_ (fun w' hw' => Or.inl ?_) (fun K hK => ?_) | refine mixsq rfl rfl 6 (by decide +kernel) ?_ (fun w' hw' => Or.inl ?_) (fun K hK => ?_) | refine mixsq rfl rfl 7 (by decide +kernel) ?_ (fun w' hw' => Or.inl ?_) (fun K hK => ?_)); rotate_left; (focus (go_simp; rfl)); go_simp; refine hK _ ?_; clear hK K)
  refine mixs_nil ?_
  clear hr hx hxb hx1 hx2 hx12 hRd h1 p0 p1 p2 d0 d1 d2
  have hIs := Lib.hid (RIs_calls w2.drew h2.out.pm.rg.drew (k : Int))
  rw [decide_eq_true hin] at hIs
  go_wp2_with fail
  refine wp_mixs (fun W => Below w2.heap.size w2 W) [6] (by kernel_rfl) (by kernel_rfl) (by kernel_rfl) (by decide) ((Below.refl _ _).drew) ?_
  iterate 6 ((first | refine mixsq rfl rfl 0 (by decide +kernel) ?_ (fun w' hw' => Or.inl ?_) (fun K hK => ?_) | refine mixsq rfl rfl 1 (by decide +kernel) ?_ (fun w' hw' => Or.inl ?_) (fun K hK => ?_) | refine mixsq rfl rfl 2 (by decide +kernel) ?_ (fun w' hw' => Or.inl ?_) (fun K hK => ?_) | refine mixsq rfl rfl 3 (by decide +kernel) ?_ (fun w' hw' => Or.inl ?_) (fun K hK => ?_) | refine mixsq rfl rfl 4 (by decide +kernel) ?_ (fun w' hw' => Or.inl ?_) (fun K hK => ?_) | refine mixsq rfl rfl 5 (by decide +kernel) ?_ (fun w' hw' => Or.inl ?_) (fun K hK => ?_) | refine mixsq rfl rfl 6 (by decide +kernel) ?_ (fun w' hw' => Or.inl ?_) (fun K hK => ?_) | refine mixsq rfl rfl 7 (by decide +kernel) ?_ (fun w' hw' => Or.inl ?_) (fun K hK => ?_)); rotate_left; (focus (have hb : Below w2.heap.size w2 w' := hw'; have hs := h2.out.below hXh.out hb; have q2 := (hs.at_.cell (off + 2)).trans hi2.out; have a1 : w'.cell? ⟨w.heap.size, 1, none⟩ = some (.int .i64 (k : Int)) := hs.ac.cell 1; go_simp; rfl)); go_simp; refine hK _ ?_; clear hK K)
  refine mixsl rfl rfl (fun K hK => ?_)
  go_simp
  refine hIs.out.mono ?_
  rintro e w3 ⟨rfl, rfl⟩
  have b3 : Below w2.heap.size w2 w2.drew := (Below.refl _ _).drew
  refine hK (fun W => Below w2.heap.size w2 W) _ _ (fun _ => ⟨b3, fun _ => b3⟩) ?_
  clear hK K
  (first | refine mixsq rfl rfl 0 (by decide +kernel) ?_ (fun w' hw' => Or.inl ?_) (fun K hK => ?_) | refine mixsq rfl rfl 1 (by decide +kernel) ?_ (fun w' hw' => Or.inl ?_) (fun K hK => ?_) | refine mixsq rfl rfl 2 (by decide +kernel) ?_ (fun w' hw' => Or.inl ?_) (fun K hK => ?_) | refine mixsq rfl rfl 3 (by decide +kernel) ?_ (fun w' hw' => Or.inl ?_) (fun K hK => ?_) | refine mixsq rfl rfl 4 (by decide +kernel) ?_ (fun w' hw' => Or.inl ?_) (fun K hK => ?_) | refine mixsq rfl rfl 5 (by decide +kernel) ?_ (fun w' hw' => Or.inl ?_) (fun K hK => ?_) | refine mixsq rfl rfl 6 (by decide +kernel) ?_ (fun w' hw' => Or.inl ?_) (fun K hK => ?_) | refine mixsq rfl rfl 7 (by decide +kernel) ?_ (fun w' hw' => Or.inl ?_) (fun K hK => ?_)); rotate_left; (focus (go_simp; rfl)); go_simp; refine hK _ ?_; clear hK K
  refine mixs_nil ?_
  clear hIs b3
  have g0 := Lib.hid (fun (W : World) (hb : Below w2.heap.size w2 W) => ((h2.out.below hXh.out hb).pm.rg.blk.cell 0))
  have g1 := Lib.hid (fun (W : World) (hb : Below w2.heap.size w2 W) => ((h2.out.below hXh.out hb).pm.rg.atL hk))
  rw [hrl.out] at g1
  unfold str at g1
  have hee := str_beq Y Y
  rw [decide_eq_true rfl] at hee
  have hk' : (k : Int) < 70 := by omega
  have hB2 : Hid (Below w2.heap.size w2 w2.drew.drew) := Lib.hid ((Below.refl _ _).drew.drew)
  go_wp2
  refine wp_mixs (fun W => Below w2.heap.size w2 W) [] (by kernel_rfl) (by kernel_rfl) (by kernel_rfl) (by decide) hB2.out ?_
  iterate 3 ((first | refine mixsq rfl rfl 0 (by decide +kernel) ?_ (fun w' hw' => Or.inl ?_) (fun K hK => ?_) | refine mixsq rfl rfl 1 (by decide +kernel) ?_ (fun w' hw' => Or.inl ?_) (fun K hK => ?_) | refine mixsq rfl rfl 2 (by decide +kernel) ?_ (fun w' hw' => Or.inl ?_) (fun K hK => ?_) | refine mixsq rfl rfl 3 (by decide +kernel) ?_ (fun w' hw' => Or.inl ?_) (fun K hK => ?_) | refine mixsq rfl rfl 4 (by decide +kernel) ?_ (fun w' hw' => Or.inl ?_) (fun K hK => ?_) | refine mixsq rfl rfl 5 (by decide +kernel) ?_ (fun w' hw' => Or.inl ?_) (fun K hK => ?_) | refine mixsq rfl rfl 6 (by decide +kernel) ?_ (fun w' hw' => Or.inl ?_) (fun K hK => ?_) | refine mixsq rfl rfl 7 (by decide +kernel) ?_ (fun w' hw' => Or.inl ?_) (fun K hK => ?_)); rotate_left; (focus (go_simp; rfl)); go_simp; refine hK _ ?_; clear hK K)
  iterate 14 ((first | refine mixsq_yes rfl (by first | rfl | kernel_rfl) 0 (by decide +kernel) ?_ (fun w' hw' => Or.inl ?_) (fun K hK => ?_) | refine mixsq_yes rfl (by first | rfl | kernel_rfl) 1 (by decide +kernel) ?_ (fun w' hw' => Or.inl ?_) (fun K hK => ?_) | refine mixsq_yes rfl (by first | rfl | kernel_rfl) 2 (by decide +kernel) ?_ (fun w' hw' => Or.inl ?_) (fun K hK => ?_) | refine mixsq_yes rfl (by first | rfl | kernel_rfl) 3 (by decide +kernel) ?_ (fun w' hw' => Or.inl ?_) (fun K hK => ?_) | refine mixsq_yes rfl (by first | rfl | kernel_rfl) 4 (by decide +kernel) ?_ (fun w' hw' => Or.inl ?_) (fun K hK => ?_) | refine mixsq_yes rfl (by first | rfl | kernel_rfl) 5 (by decide +kernel) ?_ (fun w' hw' => Or.inl ?_) (fun K hK => ?_) | refine mixsq_yes rfl (by first | rfl | kernel_rfl) 6 (by decide +kernel) ?_ (fun w' hw' => Or.inl ?_) (fun K hK => ?_) | refine mixsq_yes rfl (by first | rfl | kernel_rfl) 7 (by decide +kernel) ?_ (fun w' hw' => Or.inl ?_) (fun K hK => ?_)); rotate_left; (focus (have hb : Below w2.heap.size w2 w' := hw'; have hs := h2.out.below hXh.out hb; have q2 := (hs.at_.cell (off + 2)).trans hi2.out; have a1 : w'.cell? ⟨w.heap.size, 1, none⟩ = some (.int .i64 (k : Int)) := hs.ac.cell 1; have g0' := g0.out w' hb; have g1' := g1.out w' hb; have s1 := run_str (P := Try.prog) w' 32 9 5 _ _ Try.underlying32 Try.underlying5 Try.underlying9 (hR2.out.below hb); unfold str at s1; go_simp; rfl)); go_simp; refine hK _ ?_; clear hK K)
  iterate 2 ((first | refine mixsq rfl rfl 0 (by decide +kernel) ?_ (fun w' hw' => Or.inl ?_) (fun K hK => ?_) | refine mixsq rfl rfl 1 (by decide +kernel) ?_ (fun w' hw' => Or.inl ?_) (fun K hK => ?_) | refine mixsq rfl rfl 2 (by decide +kernel) ?_ (fun w' hw' => Or.inl ?_) (fun K hK => ?_) | refine mixsq rfl rfl 3 (by decide +kernel) ?_ (fun w' hw' => Or.inl ?_) (fun K hK => ?_) | refine mixsq rfl rfl 4 (by decide +kernel) ?_ (fun w' hw' => Or.inl ?_) (fun K hK => ?_) | refine mixsq rfl rfl 5 (by decide +kernel) ?_ (fun w' hw' => Or.inl ?_) (fun K hK => ?_) | refine mixsq rfl rfl 6 (by decide +kernel) ?_ (fun w' hw' => Or.inl ?_) (fun K hK => ?_) | refine mixsq rfl rfl 7 (by decide +kernel) ?_ (fun w' hw' => Or.inl ?_) (fun K hK => ?_)); rotate_left; (focus (go_simp; rfl)); go_simp; refine hK _ ?_; clear hK K)
  refine mixs_nil ?_
  have h3 := h2.out.below hXh.out hB2.out
  have hfin : Hid (SO W0 w gl g gr bl cl bd cd gp off T cs X x r V M (.returned (.bool true)) w2.drew.drew) := Lib.hid ⟨_, x, ot, nv, r, rfl, h3.pm.less (fun k hk => .inl hk), by rw [set_same hi1.out]; exact h3.at_, h3.kp, hsp.out⟩
  go_wp2
  go_ret
  exact hfin.out
set_option linter.unusedVariables false in
set_option maxRecDepth 100000 in
set_option maxHeartbeats 8000000 in
theorem step6o {W0 w : World} {gl g gr bl cl bd cd gp off T : Nat} {cs : Array Value} {X : Nat → Prop} {x : Lk} {ot : Option (Nat × Tk)} {nv : Value} {r : Rl} {V : Nat → List UInt8} {M : Nat} (h : PM W0 w gl g x (ot) gr bl cl bd cd nv r X) (hb : Blk w gp T cs) (i0 : cs[off]? = some (.pointer (some ⟨gl, 0, none⟩))) (i1 : cs[off + 1]? = some (tptr (ot))) (i2 : cs[off + 2]? = some (.pointer (some ⟨gr, 0, none⟩))) (hX : X gp) (hg : W0.heap.size ≤ gp) (hT : 5 ≠ T ∧ 3 ≠ T) (hp : PA x V) (ht : Tie x V (ot.map Prod.snd) r) (hf : Fit 135 M x.d) (hM : M ≤ 700000000) (hpn : 0 ≤ x.pn ∧ x.pn ≤ 1000000) (hsy : 0 ≤ r.sy ∧ r.sy ≤ 1000000) (n : Int) (hn : -9223372036854775808 ≤ n ∧ n ≤ 9223372036854775807) (bA : Option Addr) (bc : Nat) (bs : List UInt8) (hv : Rd W0 (.slice bA bs.length bc) (bvs bs)) (hbl : bs.length ≤ 64) (hin : ¬ (0 ≤ n ∧ n < 70)) : Calls Try.prog 37 #[.pointer (some ⟨gp, off, none⟩), .agg #[.int .i64 6, .int .i64 n, .slice bA bs.length bc]] w (SO W0 w gl g gr bl cl bd cd gp off T cs X x r V M) := by
  have h1 := Lib.hid (SH.begin_ h hb #[.int .i64 6, .int .i64 n, .slice bA bs.length bc])
  obtain ⟨w1, hw1⟩ : ∃ w1, w.alloc (.cells #[.int .i64 6, .int .i64 n, .slice bA bs.length bc] 65) = w1 := ⟨_, rfl⟩
  rw [hw1] at h1
  have hqne : gp ≠ w.heap.size := fun e => by have := h.xl gp hX; omega
  have d0 : w1.cell? ⟨w.heap.size, 0, none⟩ = some (.int .i64 6) := h1.out.ac.cell 0
  have d1 : w1.cell? ⟨w.heap.size, 1, none⟩ = some (.int .i64 n) := h1.out.ac.cell 1
  have d2 : w1.cell? ⟨w.heap.size, 2, none⟩ = some (.slice bA bs.length bc) := h1.out.ac.cell 2
  have p0 : w1.cell? ⟨gp, off, none⟩ = some (.pointer (some ⟨gl, 0, none⟩)) := (h1.out.at_.cell off).trans i0
  have p1 : w1.cell? ⟨gp, off + 1, none⟩ = some (tptr ot) := (h1.out.at_.cell (off + 1)).trans i1
  have p2 : w1.cell? ⟨gp, off + 2, none⟩ = some (.pointer (some ⟨gr, 0, none⟩)) := (h1.out.at_.cell (off + 2)).trans i2
  clear h hb
  have hi1 := Lib.hid i1
  have hi0 := Lib.hid i0
  have hi2 := Lib.hid i2
  have hof : x.d.off = false := hp.pq.of
  have hXh := Lib.hid hX
  have hsp := Lib.hid (SP.quiet (x' := x) (r' := r) hp hf hpn.1 rfl rfl rfl ht rfl)
  have hRd := pRead (h1.out.drew hX).pm hf (by omega) n
  rw [hp.readE, if_neg hin] at hRd
  have hRd := Lib.hid hRd
  have hIs := Lib.hid (RIs_calls w1.drew.drew h1.out.pm.rg.drew.drew n)
  rw [decide_eq_false hin] at hIs
  clear i0 i1 i2 hp ht hsy hpn hv hqne hf hof hX
  have h3 := h1.out.below hXh.out (show Below w1.heap.size w1 w1.drew.drew from (Below.refl _ _).drew.drew)
  have hfin : Hid (SO W0 w gl g gr bl cl bd cd gp off T cs X x r V M (.returned (.bool true)) w1.drew.drew) := Lib.hid ⟨_, x, ot, nv, r, rfl, h3.pm.less (fun k hk => .inl hk), by rw [set_same hi1.out]; exact h3.at_, h3.kp, hsp.out⟩
  go_enter Try.func37, Try.ntmps37
  go_wp2_with fail
  refine wp_mixs (fun W => Below w1.heap.size w1 W) [6] (by kernel_rfl) (by kernel_rfl) (by kernel_rfl) (by decide) ((Below.refl _ _).drew) ?_
  iterate 6 ((first | refine mixsq rfl rfl 0 (by decide +kernel) ?_ (fun w' hw' => Or.inl ?_) (fun K hK => ?_) | refine mixsq rfl rfl 1 (by decide +kernel) ?_ (fun w' hw' => Or.inl ?_) (fun K hK => ?_) | refine mixsq rfl rfl 2 (by decide +kernel) ?_ (fun w' hw' => Or.inl ?_) (fun K hK => ?_) | refine mixsq rfl rfl 3 (by decide +kernel) ?_ (fun w' hw' => Or.inl ?_) (fun K hK => ?_) | refine mixsq rfl rfl 4 (by decide +kernel) ?_ (fun w' hw' => Or.inl ?_) (fun K hK => ?_) | refine mixsq rfl rfl 5 (by decide +kernel) ?_ (fun w' hw' => Or.inl ?_) (fun K hK => ?_) | refine mixsq rfl rfl 6 (by decide +kernel) ?_ (fun w' hw' => Or.inl ?_) (fun K hK => ?_) | refine mixsq rfl rfl 7 (by decide +kernel) ?_ (fun w' hw' => Or.inl ?_) (fun K hK => ?_)); rotate_left; (focus (have hb : Below w1.heap.size w1 w' := hw'; have hs := h1.out.below hXh.out hb; have q0 := (hs.at_.cell off).trans hi0.out; have a1 : w'.cell? ⟨w.heap.size, 1, none⟩ = some (.int .i64 n) := hs.ac.cell 1; go_simp; rfl)); go_simp; refine hK _ ?_; clear hK K)
  refine mixsl rfl rfl (fun K hK => ?_)
  go_simp
  refine hRd.out.mono ?_
  rintro e w3 (⟨hr0, _⟩ | ⟨_, rfl, rfl⟩)
  · cases hr0
  have b3 : Below w1.heap.size w1 w1.drew := (Below.refl _ _).drew
  refine hK (fun W => Below w1.heap.size w1 W) _ _ (fun _ => ⟨b3, fun _ => b3⟩) ?_
  clear hK K
  iterate 5 ((first | refine mixsq rfl rfl 0 (by decide +kernel) ?_ (fun w' hw' => Or.inl ?_) (fun K hK => ?_) | refine mixsq rfl rfl 1 (by decide +kernel) ?_ (fun w' hw' => Or.inl ?_) (fun K hK => ?_) | refine mixsq rfl rfl 2 (by decide +kernel) ?_ (fun w' hw' => Or.inl ?_) (fun K hK => ?_) | refine mixsq rfl rfl 3 (by decide +kernel) ?_ (fun w' hw' => Or.inl ?_) (fun K hK => ?_) | refine mixsq rfl rfl 4 (by decide +kernel) ?_ (fun w' hw' => Or.inl ?_) (fun K hK => ?_) | refine mixsq rfl rfl 5 (by decide +kernel) ?_ (fun w' hw' => Or.inl ?_) (fun K hK => ?_) | refine mixsq rfl rfl 6 (by decide +kernel) ?_ (fun w' hw' => Or.inl ?_) (fun K hK => ?_) | refine mixsq rfl rfl 7 (by decide +kernel) ?_ (fun w' hw' => Or.inl ?_) (fun K hK => ?_)); rotate_left; (focus (go_simp; rfl)); go_simp; refine hK _ ?_; clear hK K)
  refine mixs_nil ?_
  clear hRd b3 h3
  go_wp2_with fail
  refine wp_mixs (fun W => Below w1.heap.size w1 W) [6] (by kernel_rfl) (by kernel_rfl) (by kernel_rfl) (by decide) ((Below.refl _ _).drew.drew) ?_
  iterate 6 ((first | refine mixsq rfl rfl 0 (by decide +kernel) ?_ (fun w' hw' => Or.inl ?_) (fun K hK => ?_) | refine mixsq rfl rfl 1 (by decide +kernel) ?_ (fun w' hw' => Or.inl ?_) (fun K hK => ?_) | refine mixsq rfl rfl 2 (by decide +kernel) ?_ (fun w' hw' => Or.inl ?_) (fun K hK => ?_) | refine mixsq rfl rfl 3 (by decide +kernel) ?_ (fun w' hw' => Or.inl ?_) (fun K hK => ?_) | refine mixsq rfl rfl 4 (by decide +kernel) ?_ (fun w' hw' => Or.inl ?_) (fun K hK => ?_) | refine mixsq rfl rfl 5 (by decide +kernel) ?_ (fun w' hw' => Or.inl ?_) (fun K hK => ?_) | refine mixsq rfl rfl 6 (by decide +kernel) ?_ (fun w' hw' => Or.inl ?_) (fun K hK => ?_) | refine mixsq rfl rfl 7 (by decide +kernel) ?_ (fun w' hw' => Or.inl ?_) (fun K hK => ?_)); rotate_left; (focus (have hb : Below w1.heap.size w1 w' := hw'; have hs := h1.out.below hXh.out hb; have q2 := (hs.at_.cell (off + 2)).trans hi2.out; have a1 : w'.cell? ⟨w.heap.size, 1, none⟩ = some (.int .i64 n) := hs.ac.cell 1; go_simp; rfl)); go_simp; refine hK _ ?_; clear hK K)
  refine mixsl rfl rfl (fun K hK => ?_)
  go_simp
  refine hIs.out.mono ?_
  rintro e w3 ⟨rfl, rfl⟩
  have b3 : Below w1.heap.size w1 w1.drew.drew := by first | exact (Below.refl _ _).drew | exact ((Below.refl _ _).drew).drew | exact (((Below.refl _ _).drew).drew).drew
  refine hK (fun W => Below w1.heap.size w1 W) _ _ (fun _ => ⟨b3, fun _ => b3⟩) ?_
  clear hK K
  (first | refine mixsq rfl rfl 0 (by decide +kernel) ?_ (fun w' hw' => Or.inl ?_) (fun K hK => ?_) | refine mixsq rfl rfl 1 (by decide +kernel) ?_ (fun w' hw' => Or.inl ?_) (fun K hK => ?_) | refine mixsq rfl rfl 2 (by decide +kernel) ?_ (fun w' hw' => Or.inl ?_) (fun K hK => ?_) | refine mixsq rfl rfl 3 (by decide +kernel) ?_ (fun w' hw' => Or.inl ?_) (fun K hK => ?_) | refine mixsq rfl rfl 4 (by decide +kernel) ?_ (fun w' hw' => Or.inl ?_) (fun K hK => ?_) | refine mixsq rfl rfl 5 (by decide +kernel) ?_ (fun w' hw' => Or.inl ?_) (fun K hK => ?_) | refine mixsq rfl rfl 6 (by decide +kernel) ?_ (fun w' hw' => Or.inl ?_) (fun K hK => ?_) | refine mixsq rfl rfl 7 (by decide +kernel) ?_ (fun w' hw' => Or.inl ?_) (fun K hK => ?_)); rotate_left; (focus (go_simp; rfl)); go_simp; refine hK _ ?_; clear hK K
  refine mixs_nil ?_
  clear hIs b3
  go_wp2
  go_ret
  exact hfin.out
set_option linter.unusedVariables false in
set_option maxRecDepth 100000 in
set_option maxHeartbeats 8000000 in
theorem step7n {W0 w : World} {gl g gr bl cl bd cd gp off T : Nat} {cs : Array Value} {X : Nat → Prop} {x : Lk} {nv : Value} {r : Rl} {V : Nat → List UInt8} {M : Nat} (h : PM W0 w gl g x (none) gr bl cl bd cd nv r X) (hb : Blk w gp T cs) (i0 : cs[off]? = some (.pointer (some ⟨gl, 0, none⟩))) (i1 : cs[off + 1]? = some (tptr (none))) (i2 : cs[off + 2]? = some (.pointer (some ⟨gr, 0, none⟩))) (hX : X gp) (hg : W0.heap.size ≤ gp) (hT : 5 ≠ T ∧ 3 ≠ T) (hp : PA x V) (ht : Tie x V (none) r) (hf : Fit 135 M x.d) (hM : M ≤ 700000000) (hpn : 0 ≤ x.pn ∧ x.pn ≤ 1000000) (hsy : 0 ≤ r.sy ∧ r.sy ≤ 1000000) (n : Int) (hn : -9223372036854775808 ≤ n ∧ n ≤ 9223372036854775807) (bA : Option Addr) (bc : Nat) (bs : List UInt8) (hv : Rd W0 (.slice bA bs.length bc) (bvs bs)) (hbl : bs.length ≤ 64) : Calls Try.prog 37 #[.pointer (some ⟨gp, off, none⟩), .agg #[.int .i64 7, .int .i64 n, .slice bA bs.length bc]] w (SO W0 w gl g gr bl cl bd cd gp off T cs X x r V M) := by
  have h1 := Lib.hid (SH.begin_ h hb #[.int .i64 7, .int .i64 n, .slice bA bs.length bc])
  obtain ⟨w1, hw1⟩ : ∃ w1, w.alloc (.cells #[.int .i64 7, .int .i64 n, .slice bA bs.length bc] 65) = w1 := ⟨_, rfl⟩
  rw [hw1] at h1
  have hqne : gp ≠ w.heap.size := fun e => by have := h.xl gp hX; omega
  have d0 : w1.cell? ⟨w.heap.size, 0, none⟩ = some (.int .i64 7) := h1.out.ac.cell 0
  have d1 : w1.cell? ⟨w.heap.size, 1, none⟩ = some (.int .i64 n) := h1.out.ac.cell 1
  have d2 : w1.cell? ⟨w.heap.size, 2, none⟩ = some (.slice bA bs.length bc) := h1.out.ac.cell 2
  have p0 : w1.cell? ⟨gp, off, none⟩ = some (.pointer (some ⟨gl, 0, none⟩)) := (h1.out.at_.cell off).trans i0
  have p1 : w1.cell? ⟨gp, off + 1, none⟩ = some (.pointer none) := (h1.out.at_.cell (off + 1)).trans i1
  have p2 : w1.cell? ⟨gp, off + 2, none⟩ = some (.pointer (some ⟨gr, 0, none⟩)) := (h1.out.at_.cell (off + 2)).trans i2
  clear h hb
  have hi1 := Lib.hid i1
  have hi0 := Lib.hid i0
  have hi2 := Lib.hid i2
  have hof : x.d.off = false := hp.pq.of
  have hXh := Lib.hid hX
  have hsp := Lib.hid (SP.quiet (x' := x) (r' := r) hp hf hpn.1 rfl rfl rfl ht rfl)
  have h3 := h1.out.below hXh.out (show Below w1.heap.size w1 w1 from (Below.refl _ _))
  have hfin : Hid (SO W0 w gl g gr bl cl bd cd gp off T cs X x r V M (.returned (.bool true)) w1) := Lib.hid ⟨_, x, none, nv, r, rfl, h3.pm.less (fun k hk => .inl hk), by rw [set_same hi1.out]; exact h3.at_, h3.kp, hsp.out⟩
  clear h3 i0 i1 i2 hp ht hsy hpn hv hqne hf hof hX
  go_enter Try.func37, Try.ntmps37
  go_wp2
  go_ret
  exact hfin.out
set_option linter.unusedVariables false in
set_option maxRecDepth 100000 in
set_option maxHeartbeats 8000000 in
theorem step7s {W0 w : World} {gl g gr bl cl bd cd gp off T : Nat} {cs : Array Value} {X : Nat → Prop} {x : Lk} {gt : Nat} {t : Tk} {nv : Value} {r : Rl} {V : Nat → List UInt8} {M : Nat} (h : PM W0 w gl g x (some (gt, t)) gr bl cl bd cd nv r X) (hb : Blk w gp T cs) (i0 : cs[off]? = some (.pointer (some ⟨gl, 0, none⟩))) (i1 : cs[off + 1]? = some (tptr (some (gt, t)))) (i2 : cs[off + 2]? = some (.pointer (some ⟨gr, 0, none⟩))) (hX : X gp) (hg : W0.heap.size ≤ gp) (hT : 5 ≠ T ∧ 3 ≠ T) (hp : PA x V) (ht : Tie x V (some t) r) (hf : Fit 135 M x.d) (hM : M ≤ 700000000) (hpn : 0 ≤ x.pn ∧ x.pn ≤ 1000000) (hsy : 0 ≤ r.sy ∧ r.sy ≤ 1000000) (n : Int) (hn : -9223372036854775808 ≤ n ∧ n ≤ 9223372036854775807) (bA : Option Addr) (bc : Nat) (bs : List UInt8) (hv : Rd W0 (.slice bA bs.length bc) (bvs bs)) (hbl : bs.length ≤ 64) (hop : x.op = false) : Calls Try.prog 37 #[.pointer (some ⟨gp, off, none⟩), .agg #[.int .i64 7, .int .i64 n, .slice bA bs.length bc]] w (SO W0 w gl g gr bl cl bd cd gp off T cs X x r V M) := by
  have h1 := Lib.hid (SH.begin_ h hb #[.int .i64 7, .int .i64 n, .slice bA bs.length bc])
  obtain ⟨w1, hw1⟩ : ∃ w1, w.alloc (.cells #[.int .i64 7, .int .i64 n, .slice bA bs.length bc] 65) = w1 := ⟨_, rfl⟩
  rw [hw1] at h1
  have hqne : gp ≠ w.heap.size := fun e => by have := h.xl gp hX; omega
  have d0 : w1.cell? ⟨w.heap.size, 0, none⟩ = some (.int .i64 7) := h1.out.ac.cell 0
  have d1 : w1.cell? ⟨w.heap.size, 1, none⟩ = some (.int .i64 n) := h1.out.ac.cell 1
  have d2 : w1.cell? ⟨w.heap.size, 2, none⟩ = some (.slice bA bs.length bc) := h1.out.ac.cell 2
  have p0 : w1.cell? ⟨gp, off, none⟩ = some (.pointer (some ⟨gl, 0, none⟩)) := (h1.out.at_.cell off).trans i0
  have p1 : w1.cell? ⟨gp, off + 1, none⟩ = some (.pointer (some ⟨gt, 0, none⟩)) := (h1.out.at_.cell (off + 1)).trans i1
  have p2 : w1.cell? ⟨gp, off + 2, none⟩ = some (.pointer (some ⟨gr, 0, none⟩)) := (h1.out.at_.cell (off + 2)).trans i2
  clear h hb
  have hi1 := Lib.hid i1
  have hi0 := Lib.hid i0
  have hi2 := Lib.hid i2
  have hof : x.d.off = false := hp.pq.of
  have hXh := Lib.hid hX
  have hsp := Lib.hid (SP.quiet (x' := x) (r' := r) hp hf hpn.1 rfl rfl rfl ht rfl)
  have c3 : w1.cell? ⟨gr, 3, none⟩ = some (.bool r.op) := h1.out.pm.rg.blk.cell 3
  rw [ht.op, hop] at c3
  have h3 := h1.out.below hXh.out (show Below w1.heap.size w1 w1 from (Below.refl _ _))
  have hfin : Hid (SO W0 w gl g gr bl cl bd cd gp off T cs X x r V M (.returned (.bool true)) w1) := Lib.hid ⟨_, x, some (gt, t), nv, r, rfl, h3.pm.less (fun k hk => .inl hk), by rw [set_same hi1.out]; exact h3.at_, h3.kp, hsp.out⟩
  clear h3 i0 i1 i2 hp ht hsy hpn hv hqne hf hof hX hop h1
  go_enter Try.func37, Try.ntmps37
  go_wp2
  go_ret
  exact hfin.out
set_option linter.unusedVariables false in
set_option maxRecDepth 100000 in
set_option maxHeartbeats 8000000 in
theorem step7i {W0 w : World} {gl g gr bl cl bd cd gp off T : Nat} {cs : Array Value} {X : Nat → Prop} {x : Lk} {gt : Nat} {t : Tk} {nv : Value} {r : Rl} {V : Nat → List UInt8} {M : Nat} (h : PM W0 w gl g x (some (gt, t)) gr bl cl bd cd nv r X) (hb : Blk w gp T cs) (i0 : cs[off]? = some (.pointer (some ⟨gl, 0, none⟩))) (i1 : cs[off + 1]? = some (tptr (some (gt, t)))) (i2 : cs[off + 2]? = some (.pointer (some ⟨gr, 0, none⟩))) (hX : X gp) (hg : W0.heap.size ≤ gp) (hT : 5 ≠ T ∧ 3 ≠ T) (hp : PA x V) (ht : Tie x V (some t) r) (hf : Fit 135 M x.d) (hM : M ≤ 700000000) (hpn : 0 ≤ x.pn ∧ x.pn ≤ 1000000) (hsy : 0 ≤ r.sy ∧ r.sy ≤ 1000000) (n : Int) (hn : -9223372036854775808 ≤ n ∧ n ≤ 9223372036854775807) (bA : Option Addr) (bc : Nat) (bs : List UInt8) (hv : Rd W0 (.slice bA bs.length bc) (bvs bs)) (hbl : bs.length ≤ 64) (hop : x.op = true) (hin : 0 ≤ n ∧ n < 70) : Calls Try.prog 37 #[.pointer (some ⟨gp, off, none⟩), .agg #[.int .i64 7, .int .i64 n, .slice bA bs.length bc]] w (SO W0 w gl g gr bl cl bd cd gp off T cs X x r V M) := by
  have h1 := Lib.hid (SH.begin_ h hb #[.int .i64 7, .int .i64 n, .slice bA bs.length bc])
  obtain ⟨w1, hw1⟩ : ∃ w1, w.alloc (.cells #[.int .i64 7, .int .i64 n, .slice bA bs.length bc] 65) = w1 := ⟨_, rfl⟩
  rw [hw1] at h1
  have hqne : gp ≠ w.heap.size := fun e => by have := h.xl gp hX; omega
  have d0 : w1.cell? ⟨w.heap.size, 0, none⟩ = some (.int .i64 7) := h1.out.ac.cell 0
  have d1 : w1.cell? ⟨w.heap.size, 1, none⟩ = some (.int .i64 n) := h1.out.ac.cell 1
  have d2 : w1.cell? ⟨w.heap.size, 2, none⟩ = some (.slice bA bs.length bc) := h1.out.ac.cell 2
  have p0 : w1.cell? ⟨gp, off, none⟩ = some (.pointer (some ⟨gl, 0, none⟩)) := (h1.out.at_.cell off).trans i0
  have p1 : w1.cell? ⟨gp, off + 1, none⟩ = some (.pointer (some ⟨gt, 0, none⟩)) := (h1.out.at_.cell (off + 1)).trans i1
  have p2 : w1.cell? ⟨gp, off + 2, none⟩ = some (.pointer (some ⟨gr, 0, none⟩)) := (h1.out.at_.cell (off + 2)).trans i2
  clear h hb
  have hi1 := Lib.hid i1
  have hi0 := Lib.hid i0
  have hi2 := Lib.hid i2
  have hof : x.d.off = false := hp.pq.of
  have hXh := Lib.hid hX
  have hsp := Lib.hid (SP.quiet (x' := x) (r' := r) hp hf hpn.1 rfl rfl rfl ht rfl)
  have c3 : w1.cell? ⟨gr, 3, none⟩ = some (.bool r.op) := h1.out.pm.rg.blk.cell 3
  rw [ht.op, hop] at c3
  have hRd := pTRead (h1.out.drew hX).pm hf (by omega) n hn.1 hn.2
  rw [ht.tread hop hp, if_pos hin] at hRd
  have hY5 := ht.rread5 hop hp n hin
  have hRR := RRead_calls
  have hr70 := ((ht.ts t rfl).2.2 hop).1
  have hwr := ((ht.ts t rfl).2.2 hop).2.2
  have hR1 : (rreadP r n).1 = 0 := by unfold rreadP; rw [if_pos hin]
  have hRR := Lib.hid (fun (W : World) (hg : RG W gr bl cl bd cd nv r) => RRead_calls W hg hr70 n)
  rw [hR1] at hRR
  obtain ⟨Y, hY⟩ : ∃ Y, Hid ((rreadP r n).2 = Y) := ⟨_, Lib.hid rfl⟩
  rw [hY.out] at hRd hRR hY5
  have hRd := Lib.hid hRd
  have hwr := Lib.hid hwr
  have hY5 := Lib.hid hY5
  clear i0 i1 i2 hp ht hsy hpn hv hqne hf hof hX hr70 hR1 hop
  go_enter Try.func37, Try.ntmps37
  go_wp2_with fail
  refine wp_mixs (fun W => Below w1.heap.size w1 W) [6] (by kernel_rfl) (by kernel_rfl) (by kernel_rfl) (by decide) ((Below.refl _ _).drew) ?_
  iterate 6 ((first | refine mixsq rfl rfl 0 (by decide +kernel) ?_ (fun w' hw' => Or.inl ?_) (fun K hK => ?_) | refine mixsq rfl rfl 1 (by decide +kernel) ?_ (fun w' hw' => Or.inl ?_) (fun K hK => ?_) | refine mixsq rfl rfl 2 (by decide +kernel) ?_ (fun w' hw' => Or.inl ?_) (fun K hK => ?_) | refine mixsq rfl rfl 3 (by decide +kernel) ?_ (fun w' hw' => Or.inl ?_) (fun K hK => ?_) | refine mixsq rfl rfl 4 (by decide +kernel) ?_ (fun w' hw' => Or.inl ?_) (fun K hK => ?_) | refine mixsq rfl rfl 5 (by decide +kernel) ?_ (fun w' hw' => Or.inl ?_) (fun K hK => ?_) | refine mixsq rfl rfl 6 (by decide +kernel) ?_ (fun w' hw' => Or.inl ?_) (fun K hK => ?_) | refine mixsq rfl rfl 7 (by decide +kernel) ?_ (fun w' hw' => Or.inl ?_) (fun K hK => ?_)); rotate_left; (focus (have hb : Below w1.heap.size w1 w' := hw'; have hs := h1.out.below hXh.out hb; have q1 : w'.cell? ⟨gp, off + 1, none⟩ = some (.pointer (some ⟨gt, 0, none⟩)) := (hs.at_.cell (off + 1)).trans hi1.out; have a1 : w'.cell? ⟨w.heap.size, 1, none⟩ = some (.int .i64 n) := hs.ac.cell 1; go_simp; rfl)); go_simp; refine hK _ ?_; clear hK K)
  refine mixsl rfl rfl (fun K hK => ?_)
  go_simp
  refine hRd.out.mono ?_
  intro e w2 hr
  obtain ⟨bx, cx, rfl, hx, hxb, hx1, hx2⟩ := hr.ok rfl hY5.out
  have hx12 : Below w1.heap.size w1 w2 := ⟨hxb.os, hxb.tape, hxb.output, hxb.size, hxb.block⟩
  have hR2 := Lib.hid (Rd.of_own hx)
  have h2 := Lib.hid (h1.out.below hXh.out hx12)
  refine hK (fun W => Below w1.heap.size w1 W) _ _ (fun _ => ⟨hx12, fun _ => hx12⟩) ?_
  clear hK K
  iterate 5 ((first | refine mixsq rfl rfl 0 (by decide +kernel) ?_ (fun w' hw' => Or.inl ?_) (fun K hK => ?_) | refine mixsq rfl rfl 1 (by decide +kernel) ?_ (fun w' hw' => Or.inl ?_) (fun K hK => ?_) | refine mixsq rfl rfl 2 (by decide +kernel) ?_ (fun w' hw' => Or.inl ?_) (fun K hK => ?_) | refine mixsq rfl rfl 3 (by decide +kernel) ?_ (fun w' hw' => Or.inl ?_) (fun K hK => ?_) | refine mixsq rfl rfl 4 (by decide +kernel) ?_ (fun w' hw' => Or.inl ?_) (fun K hK => ?_) | refine mixsq rfl rfl 5 (by decide +kernel) ?_ (fun w' hw' => Or.inl ?_) (fun K hK => ?_) | refine mixsq rfl rfl 6 (by decide +kernel) ?_ (fun w' hw' => Or.inl ?_) (fun K hK => ?_) | refine mixsq rfl rfl 7 (by decide +kernel) ?_ (fun w' hw' => Or.inl ?_) (fun K hK => ?_)); rotate_left; (focus (go_simp; rfl)); go_simp; refine hK _ ?_; clear hK K)
  refine mixs_nil ?_
  clear hr hx hxb hx1 hx2 hx12 hRd h1 p0 p1 p2 d0 d1 d2 c3
  have hRe := Lib.hid (hRR.out w2.drew h2.out.pm.rg.drew)
  go_wp2_with fail
  refine wp_mixs (fun W => Below w2.heap.size w2 W) [6] (by kernel_rfl) (by kernel_rfl) (by kernel_rfl) (by decide) ((Below.refl _ _).drew) ?_
  iterate 6 ((first | refine mixsq rfl rfl 0 (by decide +kernel) ?_ (fun w' hw' => Or.inl ?_) (fun K hK => ?_) | refine mixsq rfl rfl 1 (by decide +kernel) ?_ (fun w' hw' => Or.inl ?_) (fun K hK => ?_) | refine mixsq rfl rfl 2 (by decide +kernel) ?_ (fun w' hw' => Or.inl ?_) (fun K hK => ?_) | refine mixsq rfl rfl 3 (by decide +kernel) ?_ (fun w' hw' => Or.inl ?_) (fun K hK => ?_) | refine mixsq rfl rfl 4 (by decide +kernel) ?_ (fun w' hw' => Or.inl ?_) (fun K hK => ?_) | refine mixsq rfl rfl 5 (by decide +kernel) ?_ (fun w' hw' => Or.inl ?_) (fun K hK => ?_) | refine mixsq rfl rfl 6 (by decide +kernel) ?_ (fun w' hw' => Or.inl ?_) (fun K hK => ?_) | refine mixsq rfl rfl 7 (by decide +kernel) ?_ (fun w' hw' => Or.inl ?_) (fun K hK => ?_)); rotate_left; (focus (have hb : Below w2.heap.size w2 w' := hw'; have hs := h2.out.below hXh.out hb; have q2 := (hs.at_.cell (off + 2)).trans hi2.out; have a1 : w'.cell? ⟨w.heap.size, 1, none⟩ = some (.int .i64 n) := hs.ac.cell 1; go_simp; rfl)); go_simp; refine hK _ ?_; clear hK K)
  refine mixsl rfl rfl (fun K hK => ?_)
  go_simp
  refine hRe.out.mono ?_
  rintro e w3 ⟨rfl, rfl⟩
  have b3 : Below w2.heap.size w2 w2.drew := by first | exact (Below.refl _ _).drew | exact ((Below.refl _ _).drew).drew | exact (((Below.refl _ _).drew).drew).drew
  refine hK (fun W => Below w2.heap.size w2 W) _ _ (fun _ => ⟨b3, fun _ => b3⟩) ?_
  clear hK K
  iterate 5 ((first | refine mixsq rfl rfl 0 (by decide +kernel) ?_ (fun w' hw' => Or.inl ?_) (fun K hK => ?_) | refine mixsq rfl rfl 1 (by decide +kernel) ?_ (fun w' hw' => Or.inl ?_) (fun K hK => ?_) | refine mixsq rfl rfl 2 (by decide +kernel) ?_ (fun w' hw' => Or.inl ?_) (fun K hK => ?_) | refine mixsq rfl rfl 3 (by decide +kernel) ?_ (fun w' hw' => Or.inl ?_) (fun K hK => ?_) | refine mixsq rfl rfl 4 (by decide +kernel) ?_ (fun w' hw' => Or.inl ?_) (fun K hK => ?_) | refine mixsq rfl rfl 5 (by decide +kernel) ?_ (fun w' hw' => Or.inl ?_) (fun K hK => ?_) | refine mixsq rfl rfl 6 (by decide +kernel) ?_ (fun w' hw' => Or.inl ?_) (fun K hK => ?_) | refine mixsq rfl rfl 7 (by decide +kernel) ?_ (fun w' hw' => Or.inl ?_) (fun K hK => ?_)); rotate_left; (focus (go_simp; rfl)); go_simp; refine hK _ ?_; clear hK K)
  refine mixs_nil ?_
  clear hRe b3
  have g5 := Lib.hid (fun (W : World) (hb : Below w2.heap.size w2 W) => ((h2.out.below hXh.out hb).pm.rg.blk.cell 5))
  have hee := str_beq Y Y
  rw [decide_eq_true rfl] at hee
  have hB2 : Hid (Below w2.heap.size w2 w2.drew.drew) := Lib.hid ((Below.refl _ _).drew.drew)
  have hWc := Lib.hid (pWrites (h2.out.below hXh.out hB2.out).pm)
  rw [← hwr.out] at hWc
  go_wp2_with fail
  refine wp_mixs (fun W => Below w2.heap.size w2 W) [14] (by kernel_rfl) (by kernel_rfl) (by kernel_rfl) (by decide) hB2.out ?_
  iterate 5 ((first | refine mixsq rfl rfl 0 (by decide +kernel) ?_ (fun w' hw' => Or.inl ?_) (fun K hK => ?_) | refine mixsq rfl rfl 1 (by decide +kernel) ?_ (fun w' hw' => Or.inl ?_) (fun K hK => ?_) | refine mixsq rfl rfl 2 (by decide +kernel) ?_ (fun w' hw' => Or.inl ?_) (fun K hK => ?_) | refine mixsq rfl rfl 3 (by decide +kernel) ?_ (fun w' hw' => Or.inl ?_) (fun K hK => ?_) | refine mixsq rfl rfl 4 (by decide +kernel) ?_ (fun w' hw' => Or.inl ?_) (fun K hK => ?_) | refine mixsq rfl rfl 5 (by decide +kernel) ?_ (fun w' hw' => Or.inl ?_) (fun K hK => ?_) | refine mixsq rfl rfl 6 (by decide +kernel) ?_ (fun w' hw' => Or.inl ?_) (fun K hK => ?_) | refine mixsq rfl rfl 7 (by decide +kernel) ?_ (fun w' hw' => Or.inl ?_) (fun K hK => ?_)); rotate_left; (focus (have hb : Below w2.heap.size w2 w' := hw'; have s1 := run_str (P := Try.prog) w' 32 9 5 _ _ Try.underlying32 Try.underlying5 Try.underlying9 (hR2.out.below hb); unfold str at s1; go_simp; rfl)); go_simp; refine hK _ ?_; clear hK K)
  iterate 3 ((first | refine mixsq_yes rfl (by first | rfl | kernel_rfl) 0 (by decide +kernel) ?_ (fun w' hw' => Or.inl ?_) (fun K hK => ?_) | refine mixsq_yes rfl (by first | rfl | kernel_rfl) 1 (by decide +kernel) ?_ (fun w' hw' => Or.inl ?_) (fun K hK => ?_) | refine mixsq_yes rfl (by first | rfl | kernel_rfl) 2 (by decide +kernel) ?_ (fun w' hw' => Or.inl ?_) (fun K hK => ?_) | refine mixsq_yes rfl (by first | rfl | kernel_rfl) 3 (by decide +kernel) ?_ (fun w' hw' => Or.inl ?_) (fun K hK => ?_) | refine mixsq_yes rfl (by first | rfl | kernel_rfl) 4 (by decide +kernel) ?_ (fun w' hw' => Or.inl ?_) (fun K hK => ?_) | refine mixsq_yes rfl (by first | rfl | kernel_rfl) 5 (by decide +kernel) ?_ (fun w' hw' => Or.inl ?_) (fun K hK => ?_) | refine mixsq_yes rfl (by first | rfl | kernel_rfl) 6 (by decide +kernel) ?_ (fun w' hw' => Or.inl ?_) (fun K hK => ?_) | refine mixsq_yes rfl (by first | rfl | kernel_rfl) 7 (by decide +kernel) ?_ (fun w' hw' => Or.inl ?_) (fun K hK => ?_)); rotate_left; (focus (go_simp; rfl)); go_simp; refine hK _ ?_; clear hK K)
  iterate 2 ((first | refine mixsq rfl rfl 0 (by decide +kernel) ?_ (fun w' hw' => Or.inl ?_) (fun K hK => ?_) | refine mixsq rfl rfl 1 (by decide +kernel) ?_ (fun w' hw' => Or.inl ?_) (fun K hK => ?_) | refine mixsq rfl rfl 2 (by decide +kernel) ?_ (fun w' hw' => Or.inl ?_) (fun K hK => ?_) | refine mixsq rfl rfl 3 (by decide +kernel) ?_ (fun w' hw' => Or.inl ?_) (fun K hK => ?_) | refine mixsq rfl rfl 4 (by decide +kernel) ?_ (fun w' hw' => Or.inl ?_) (fun K hK => ?_) | refine mixsq rfl rfl 5 (by decide +kernel) ?_ (fun w' hw' => Or.inl ?_) (fun K hK => ?_) | refine mixsq rfl rfl 6 (by decide +kernel) ?_ (fun w' hw' => Or.inl ?_) (fun K hK => ?_) | refine mixsq rfl rfl 7 (by decide +kernel) ?_ (fun w' hw' => Or.inl ?_) (fun K hK => ?_)); rotate_left; (focus (go_simp; rfl)); go_simp; refine hK _ ?_; clear hK K)
  iterate 4 ((first | refine mixsq_yes rfl (by first | rfl | kernel_rfl) 0 (by decide +kernel) ?_ (fun w' hw' => Or.inl ?_) (fun K hK => ?_) | refine mixsq_yes rfl (by first | rfl | kernel_rfl) 1 (by decide +kernel) ?_ (fun w' hw' => Or.inl ?_) (fun K hK => ?_) | refine mixsq_yes rfl (by first | rfl | kernel_rfl) 2 (by decide +kernel) ?_ (fun w' hw' => Or.inl ?_) (fun K hK => ?_) | refine mixsq_yes rfl (by first | rfl | kernel_rfl) 3 (by decide +kernel) ?_ (fun w' hw' => Or.inl ?_) (fun K hK => ?_) | refine mixsq_yes rfl (by first | rfl | kernel_rfl) 4 (by decide +kernel) ?_ (fun w' hw' => Or.inl ?_) (fun K hK => ?_) | refine mixsq_yes rfl (by first | rfl | kernel_rfl) 5 (by decide +kernel) ?_ (fun w' hw' => Or.inl ?_) (fun K hK => ?_) | refine mixsq_yes rfl (by first | rfl | kernel_rfl) 6 (by decide +kernel) ?_ (fun w' hw' => Or.inl ?_) (fun K hK => ?_) | refine mixsq_yes rfl (by first | rfl | kernel_rfl) 7 (by decide +kernel) ?_ (fun w' hw' => Or.inl ?_) (fun K hK => ?_)); rotate_left; (focus (have hb : Below w2.heap.size w2 w' := hw'; have hs := h2.out.below hXh.out hb; have q1 : w'.cell? ⟨gp, off + 1, none⟩ = some (.pointer (some ⟨gt, 0, none⟩)) := (hs.at_.cell (off + 1)).trans hi1.out; go_simp; rfl)); go_simp; refine hK _ ?_; clear hK K)
  refine mixsl_yes rfl (by first | rfl | kernel_rfl) (fun K hK => ?_)
  go_simp
  refine hWc.out.mono ?_
  rintro e w3 ⟨rfl, rfl⟩
  have b3 : Below w2.heap.size w2 w2.drew.drew := by first | exact (Below.refl _ _).drew | exact ((Below.refl _ _).drew).drew | exact (((Below.refl _ _).drew).drew).drew
  refine hK (fun W => Below w2.heap.size w2 W) _ _ (fun _ => ⟨b3, fun _ => b3⟩) ?_
  clear hK K
  iterate 8 ((first | refine mixsq_yes rfl (by first | rfl | kernel_rfl) 0 (by decide +kernel) ?_ (fun w' hw' => Or.inl ?_) (fun K hK => ?_) | refine mixsq_yes rfl (by first | rfl | kernel_rfl) 1 (by decide +kernel) ?_ (fun w' hw' => Or.inl ?_) (fun K hK => ?_) | refine mixsq_yes rfl (by first | rfl | kernel_rfl) 2 (by decide +kernel) ?_ (fun w' hw' => Or.inl ?_) (fun K hK => ?_) | refine mixsq_yes rfl (by first | rfl | kernel_rfl) 3 (by decide +kernel) ?_ (fun w' hw' => Or.inl ?_) (fun K hK => ?_) | refine mixsq_yes rfl (by first | rfl | kernel_rfl) 4 (by decide +kernel) ?_ (fun w' hw' => Or.inl ?_) (fun K hK => ?_) | refine mixsq_yes rfl (by first | rfl | kernel_rfl) 5 (by decide +kernel) ?_ (fun w' hw' => Or.inl ?_) (fun K hK => ?_) | refine mixsq_yes rfl (by first | rfl | kernel_rfl) 6 (by decide +kernel) ?_ (fun w' hw' => Or.inl ?_) (fun K hK => ?_) | refine mixsq_yes rfl (by first | rfl | kernel_rfl) 7 (by decide +kernel) ?_ (fun w' hw' => Or.inl ?_) (fun K hK => ?_)); rotate_left; (focus (have hb : Below w2.heap.size w2 w' := hw'; have hs := h2.out.below hXh.out hb; have q2 := (hs.at_.cell (off + 2)).trans hi2.out; have g5' := g5.out w' hb; go_simp; rfl)); go_simp; refine hK _ ?_; clear hK K)
  iterate 2 ((first | refine mixsq rfl rfl 0 (by decide +kernel) ?_ (fun w' hw' => Or.inl ?_) (fun K hK => ?_) | refine mixsq rfl rfl 1 (by decide +kernel) ?_ (fun w' hw' => Or.inl ?_) (fun K hK => ?_) | refine mixsq rfl rfl 2 (by decide +kernel) ?_ (fun w' hw' => Or.inl ?_) (fun K hK => ?_) | refine mixsq rfl rfl 3 (by decide +kernel) ?_ (fun w' hw' => Or.inl ?_) (fun K hK => ?_) | refine mixsq rfl rfl 4 (by decide +kernel) ?_ (fun w' hw' => Or.inl ?_) (fun K hK => ?_) | refine mixsq rfl rfl 5 (by decide +kernel) ?_ (fun w' hw' => Or.inl ?_) (fun K hK => ?_) | refine mixsq rfl rfl 6 (by decide +kernel) ?_ (fun w' hw' => Or.inl ?_) (fun K hK => ?_) | refine mixsq rfl rfl 7 (by decide +kernel) ?_ (fun w' hw' => Or.inl ?_) (fun K hK => ?_)); rotate_left; (focus (go_simp; rfl)); go_simp; refine hK _ ?_; clear hK K)
  refine mixs_nil ?_
  have h3 := h2.out.below hXh.out hB2.out
  have hfin : Hid (SO W0 w gl g gr bl cl bd cd gp off T cs X x r V M (.returned (.bool true)) w2.drew.drew) := Lib.hid ⟨_, x, some (gt, t), nv, r, rfl, h3.pm.less (fun k hk => .inl hk), by rw [set_same hi1.out]; exact h3.at_, h3.kp, hsp.out⟩
  go_wp2
  go_ret
  exact hfin.out
set_option linter.unusedVariables false in
set_option maxRecDepth 100000 in
set_option maxHeartbeats 8000000 in
theorem step7x {W0 w : World} {gl g gr bl cl bd cd gp off T : Nat} {cs : Array Value} {X : Nat → Prop} {x : Lk} {gt : Nat} {t : Tk} {nv : Value} {r : Rl} {V : Nat → List UInt8} {M : Nat} (h : PM W0 w gl g x (some (gt, t)) gr bl cl bd cd nv r X) (hb : Blk w gp T cs) (i0 : cs[off]? = some (.pointer (some ⟨gl, 0, none⟩))) (i1 : cs[off + 1]? = some (tptr (some (gt, t)))) (i2 : cs[off + 2]? = some (.pointer (some ⟨gr, 0, none⟩))) (hX : X gp) (hg : W0.heap.size ≤ gp) (hT : 5 ≠ T ∧ 3 ≠ T) (hp : PA x V) (ht : Tie x V (some t) r) (hf : Fit 135 M x.d) (hM : M ≤ 700000000) (hpn : 0 ≤ x.pn ∧ x.pn ≤ 1000000) (hsy : 0 ≤ r.sy ∧ r.sy ≤ 1000000) (n : Int) (hn : -9223372036854775808 ≤ n ∧ n ≤ 9223372036854775807) (bA : Option Addr) (bc : Nat) (bs : List UInt8) (hv : Rd W0 (.slice bA bs.length bc) (bvs bs)) (hbl : bs.length ≤ 64) (hop : x.op = true) (hin : ¬ (0 ≤ n ∧ n < 70)) : Calls Try.prog 37 #[.pointer (some ⟨gp, off, none⟩), .agg #[.int .i64 7, .int .i64 n, .slice bA bs.length bc]] w (SO W0 w gl g gr bl cl bd cd gp off T cs X x r V M) := by
  have h1 := Lib.hid (SH.begin_ h hb #[.int .i64 7, .int .i64 n, .slice bA bs.length bc])
  obtain ⟨w1, hw1⟩ : ∃ w1, w.alloc (.cells #[.int .i64 7, .int .i64 n, .slice bA bs.length bc] 65) = w1 := ⟨_, rfl⟩
  rw [hw1] at h1
  have hqne : gp ≠ w.heap.size := fun e => by have := h.xl gp hX; omega
  have d0 : w1.cell? ⟨w.heap.size, 0, none⟩ = some (.int .i64 7) := h1.out.ac.cell 0
  have d1 : w1.cell? ⟨w.heap.size, 1, none⟩ = some (.int .i64 n) := h1.out.ac.cell 1
  have d2 : w1.cell? ⟨w.heap.size, 2, none⟩ = some (.slice bA bs.length bc) := h1.out.ac.cell 2
  have p0 : w1.cell? ⟨gp, off, none⟩ = some (.pointer (some ⟨gl, 0, none⟩)) := (h1.out.at_.cell off).trans i0
  have p1 : w1.cell? ⟨gp, off + 1, none⟩ = some (.pointer (some ⟨gt, 0, none⟩)) := (h1.out.at_.cell (off + 1)).trans i1
  have p2 : w1.cell? ⟨gp, off + 2, none⟩ = some (.pointer (some ⟨gr, 0, none⟩)) := (h1.out.at_.cell (off + 2)).trans i2
  clear h hb
  have hi1 := Lib.hid i1
  have hi0 := Lib.hid i0
  have hi2 := Lib.hid i2
  have hof : x.d.off = false := hp.pq.of
  have hXh := Lib.hid hX
  have hsp := Lib.hid (SP.quiet (x' := x) (r' := r) hp hf hpn.1 rfl rfl rfl ht rfl)
  have c3 : w1.cell? ⟨gr, 3, none⟩ = some (.bool r.op) := h1.out.pm.rg.blk.cell 3
  rw [ht.op, hop] at c3
  have hRd := pTRead (h1.out.drew hX).pm hf (by omega) n hn.1 hn.2
  rw [ht.tread hop hp, if_neg hin] at hRd
  have hr70 := ((ht.ts t rfl).2.2 hop).1
  have hwr := Lib.hid ((ht.ts t rfl).2.2 hop).2.2
  have hRe := RRead_calls w1.drew.drew h1.out.pm.rg.drew.drew hr70 n
  have hR1 : rreadP r n = (1, []) := by unfold rreadP; rw [if_neg hin]
  rw [hR1] at hRe
  have hRe := Lib.hid hRe
  have hRd := Lib.hid hRd
  clear i0 i1 i2 hp ht hsy hpn hv hqne hf hof hX hr70 hR1 hop
  go_enter Try.func37, Try.ntmps37
  go_wp2_with fail
  refine wp_mixs (fun W => Below w1.heap.size w1 W) [6] (by kernel_rfl) (by kernel_rfl) (by kernel_rfl) (by decide) ((Below.refl _ _).drew) ?_
  iterate 6 ((first | refine mixsq rfl rfl 0 (by decide +kernel) ?_ (fun w' hw' => Or.inl ?_) (fun K hK => ?_) | refine mixsq rfl rfl 1 (by decide +kernel) ?_ (fun w' hw' => Or.inl ?_) (fun K hK => ?_) | refine mixsq rfl rfl 2 (by decide +kernel) ?_ (fun w' hw' => Or.inl ?_) (fun K hK => ?_) | refine mixsq rfl rfl 3 (by decide +kernel) ?_ (fun w' hw' => Or.inl ?_) (fun K hK => ?_) | refine mixsq rfl rfl 4 (by decide +kernel) ?_ (fun w' hw' => Or.inl ?_) (fun K hK => ?_) | refine mixsq rfl rfl 5 (by decide +kernel) ?_ (fun w' hw' => Or.inl ?_) (fun K hK => ?_) | refine mixsq rfl rfl 6 (by decide +kernel) ?_ (fun w' hw' => Or.inl ?_) (fun K hK => ?_) | refine mixsq rfl rfl 7 (by decide +kernel) ?_ (fun w' hw' => Or.inl ?_) (fun K hK => ?_)); rotate_left; (focus (have hb : Below w1.heap.size w1 w' := hw'; have hs := h1.out.below hXh.out hb; have q1 : w'.cell? ⟨gp, off + 1, none⟩ = some (.pointer (some ⟨gt, 0, none⟩)) := (hs.at_.cell (off + 1)).trans hi1.out; have a1 : w'.cell? ⟨w.heap.size, 1, none⟩ = some (.int .i64 n) := hs.ac.cell 1; go_simp; rfl)); go_simp; refine hK _ ?_; clear hK K)
  refine mixsl rfl rfl (fun K hK => ?_)
  go_simp
  refine hRd.out.mono ?_
  rintro e w3 (⟨hr0, _⟩ | ⟨_, rfl, rfl⟩)
  · cases hr0
  have b3 : Below w1.heap.size w1 w1.drew := (Below.refl _ _).drew
  refine hK (fun W => Below w1.heap.size w1 W) _ _ (fun _ => ⟨b3, fun _ => b3⟩) ?_
  clear hK K
  iterate 5 ((first | refine mixsq rfl rfl 0 (by decide +kernel) ?_ (fun w' hw' => Or.inl ?_) (fun K hK => ?_) | refine mixsq rfl rfl 1 (by decide +kernel) ?_ (fun w' hw' => Or.inl ?_) (fun K hK => ?_) | refine mixsq rfl rfl 2 (by decide +kernel) ?_ (fun w' hw' => Or.inl ?_) (fun K hK => ?_) | refine mixsq rfl rfl 3 (by decide +kernel) ?_ (fun w' hw' => Or.inl ?_) (fun K hK => ?_) | refine mixsq rfl rfl 4 (by decide +kernel) ?_ (fun w' hw' => Or.inl ?_) (fun K hK => ?_) | refine mixsq rfl rfl 5 (by decide +kernel) ?_ (fun w' hw' => Or.inl ?_) (fun K hK => ?_) | refine mixsq rfl rfl 6 (by decide +kernel) ?_ (fun w' hw' => Or.inl ?_) (fun K hK => ?_) | refine mixsq rfl rfl 7 (by decide +kernel) ?_ (fun w' hw' => Or.inl ?_) (fun K hK => ?_)); rotate_left; (focus (go_simp; rfl)); go_simp; refine hK _ ?_; clear hK K)
  refine mixs_nil ?_
  clear hRd b3 p0 p1 p2 d0 d1 d2 c3
  go_wp2_with fail
  refine wp_mixs (fun W => Below w1.heap.size w1 W) [6] (by kernel_rfl) (by kernel_rfl) (by kernel_rfl) (by decide) ((Below.refl _ _).drew.drew) ?_
  iterate 6 ((first | refine mixsq rfl rfl 0 (by decide +kernel) ?_ (fun w' hw' => Or.inl ?_) (fun K hK => ?_) | refine mixsq rfl rfl 1 (by decide +kernel) ?_ (fun w' hw' => Or.inl ?_) (fun K hK => ?_) | refine mixsq rfl rfl 2 (by decide +kernel) ?_ (fun w' hw' => Or.inl ?_) (fun K hK => ?_) | refine mixsq rfl rfl 3 (by decide +kernel) ?_ (fun w' hw' => Or.inl ?_) (fun K hK => ?_) | refine mixsq rfl rfl 4 (by decide +kernel) ?_ (fun w' hw' => Or.inl ?_) (fun K hK => ?_) | refine mixsq rfl rfl 5 (by decide +kernel) ?_ (fun w' hw' => Or.inl ?_) (fun K hK => ?_) | refine mixsq rfl rfl 6 (by decide +kernel) ?_ (fun w' hw' => Or.inl ?_) (fun K hK => ?_) | refine mixsq rfl rfl 7 (by decide +kernel) ?_ (fun w' hw' => Or.inl ?_) (fun K hK => ?_)); rotate_left; (focus (have hb : Below w1.heap.size w1 w' := hw'; have hs := h1.out.below hXh.out hb; have q2 := (hs.at_.cell (off + 2)).trans hi2.out; have a1 : w'.cell? ⟨w.heap.size, 1, none⟩ = some (.int .i64 n) := hs.ac.cell 1; go_simp; rfl)); go_simp; refine hK _ ?_; clear hK K)
  refine mixsl rfl rfl (fun K hK => ?_)
  go_simp
  refine hRe.out.mono ?_
  rintro e w3 ⟨rfl, rfl⟩
  have b3 : Below w1.heap.size w1 w1.drew.drew := by first | exact (Below.refl _ _).drew | exact ((Below.refl _ _).drew).drew | exact (((Below.refl _ _).drew).drew).drew
  refine hK (fun W => Below w1.heap.size w1 W) _ _ (fun _ => ⟨b3, fun _ => b3⟩) ?_
  clear hK K
  iterate 5 ((first | refine mixsq rfl rfl 0 (by decide +kernel) ?_ (fun w' hw' => Or.inl ?_) (fun K hK => ?_) | refine mixsq rfl rfl 1 (by decide +kernel) ?_ (fun w' hw' => Or.inl ?_) (fun K hK => ?_) | refine mixsq rfl rfl 2 (by decide +kernel) ?_ (fun w' hw' => Or.inl ?_) (fun K hK => ?_) | refine mixsq rfl rfl 3 (by decide +kernel) ?_ (fun w' hw' => Or.inl ?_) (fun K hK => ?_) | refine mixsq rfl rfl 4 (by decide +kernel) ?_ (fun w' hw' => Or.inl ?_) (fun K hK => ?_) | refine mixsq rfl rfl 5 (by decide +kernel) ?_ (fun w' hw' => Or.inl ?_) (fun K hK => ?_) | refine mixsq rfl rfl 6 (by decide +kernel) ?_ (fun w' hw' => Or.inl ?_) (fun K hK => ?_) | refine mixsq rfl rfl 7 (by decide +kernel) ?_ (fun w' hw' => Or.inl ?_) (fun K hK => ?_)); rotate_left; (focus (go_simp; rfl)); go_simp; refine hK _ ?_; clear hK K)
  refine mixs_nil ?_
  clear hRe b3
  have g5 := Lib.hid (fun (W : World) (hb : Below w1.heap.size w1 W) => ((h1.out.below hXh.out hb).pm.rg.blk.cell 5))
  have hB2 : Hid (Below w1.heap.size w1 w1.drew.drew.drew) := Lib.hid ((Below.refl _ _).drew.drew.drew)
  have hWc := Lib.hid (pWrites (h1.out.below hXh.out hB2.out).pm)
  rw [← hwr.out] at hWc
  go_wp2_with fail
  refine wp_mixs (fun W => Below w1.heap.size w1 W) [14] (by kernel_rfl) (by kernel_rfl) (by kernel_rfl) (by decide) hB2.out ?_
  iterate 5 ((first | refine mixsq rfl rfl 0 (by decide +kernel) ?_ (fun w' hw' => Or.inl ?_) (fun K hK => ?_) | refine mixsq rfl rfl 1 (by decide +kernel) ?_ (fun w' hw' => Or.inl ?_) (fun K hK => ?_) | refine mixsq rfl rfl 2 (by decide +kernel) ?_ (fun w' hw' => Or.inl ?_) (fun K hK => ?_) | refine mixsq rfl rfl 3 (by decide +kernel) ?_ (fun w' hw' => Or.inl ?_) (fun K hK => ?_) | refine mixsq rfl rfl 4 (by decide +kernel) ?_ (fun w' hw' => Or.inl ?_) (fun K hK => ?_) | refine mixsq rfl rfl 5 (by decide +kernel) ?_ (fun w' hw' => Or.inl ?_) (fun K hK => ?_) | refine mixsq rfl rfl 6 (by decide +kernel) ?_ (fun w' hw' => Or.inl ?_) (fun K hK => ?_) | refine mixsq rfl rfl 7 (by decide +kernel) ?_ (fun w' hw' => Or.inl ?_) (fun K hK => ?_)); rotate_left; (focus (have hb : Below w1.heap.size w1 w' := hw'; have s1 := run_str (P := Try.prog) w' 32 9 5 _ _ Try.underlying32 Try.underlying5 Try.underlying9 (show Rd w' (.slice none 0 0) (bvs []) from Rd.nil w' none 0); unfold str at s1; go_simp; rfl)); go_simp; refine hK _ ?_; clear hK K)
  iterate 3 ((first | refine mixsq_yes rfl (by first | rfl | kernel_rfl) 0 (by decide +kernel) ?_ (fun w' hw' => Or.inl ?_) (fun K hK => ?_) | refine mixsq_yes rfl (by first | rfl | kernel_rfl) 1 (by decide +kernel) ?_ (fun w' hw' => Or.inl ?_) (fun K hK => ?_) | refine mixsq_yes rfl (by first | rfl | kernel_rfl) 2 (by decide +kernel) ?_ (fun w' hw' => Or.inl ?_) (fun K hK => ?_) | refine mixsq_yes rfl (by first | rfl | kernel_rfl) 3 (by decide +kernel) ?_ (fun w' hw' => Or.inl ?_) (fun K hK => ?_) | refine mixsq_yes rfl (by first | rfl | kernel_rfl) 4 (by decide +kernel) ?_ (fun w' hw' => Or.inl ?_) (fun K hK => ?_) | refine mixsq_yes rfl (by first | rfl | kernel_rfl) 5 (by decide +kernel) ?_ (fun w' hw' => Or.inl ?_) (fun K hK => ?_) | refine mixsq_yes rfl (by first | rfl | kernel_rfl) 6 (by decide +kernel) ?_ (fun w' hw' => Or.inl ?_) (fun K hK => ?_) | refine mixsq_yes rfl (by first | rfl | kernel_rfl) 7 (by decide +kernel) ?_ (fun w' hw' => Or.inl ?_) (fun K hK => ?_)); rotate_left; (focus (go_simp; rfl)); go_simp; refine hK _ ?_; clear hK K)
  iterate 2 ((first | refine mixsq rfl rfl 0 (by decide +kernel) ?_ (fun w' hw' => Or.inl ?_) (fun K hK => ?_) | refine mixsq rfl rfl 1 (by decide +kernel) ?_ (fun w' hw' => Or.inl ?_) (fun K hK => ?_) | refine mixsq rfl rfl 2 (by decide +kernel) ?_ (fun w' hw' => Or.inl ?_) (fun K hK => ?_) | refine mixsq rfl rfl 3 (by decide +kernel) ?_ (fun w' hw' => Or.inl ?_) (fun K hK => ?_) | refine mixsq rfl rfl 4 (by decide +kernel) ?_ (fun w' hw' => Or.inl ?_) (fun K hK => ?_) | refine mixsq rfl rfl 5 (by decide +kernel) ?_ (fun w' hw' => Or.inl ?_) (fun K hK => ?_) | refine mixsq rfl rfl 6 (by decide +kernel) ?_ (fun w' hw' => Or.inl ?_) (fun K hK => ?_) | refine mixsq rfl rfl 7 (by decide +kernel) ?_ (fun w' hw' => Or.inl ?_) (fun K hK => ?_)); rotate_left; (focus (go_simp; rfl)); go_simp; refine hK _ ?_; clear hK K)
  iterate 4 ((first | refine mixsq_yes rfl (by first | rfl | kernel_rfl) 0 (by decide +kernel) ?_ (fun w' hw' => Or.inl ?_) (fun K hK => ?_) | refine mixsq_yes rfl (by first | rfl | kernel_rfl) 1 (by decide +kernel) ?_ (fun w' hw' => Or.inl ?_) (fun K hK => ?_) | refine mixsq_yes rfl (by first | rfl | kernel_rfl) 2 (by decide +kernel) ?_ (fun w' hw' => Or.inl ?_) (fun K hK => ?_) | refine mixsq_yes rfl (by first | rfl | kernel_rfl) 3 (by decide +kernel) ?_ (fun w' hw' => Or.inl ?_) (fun K hK => ?_) | refine mixsq_yes rfl (by first | rfl | kernel_rfl) 4 (by decide +kernel) ?_ (fun w' hw' => Or.inl ?_) (fun K hK => ?_) | refine mixsq_yes rfl (by first | rfl | kernel_rfl) 5 (by decide +kernel) ?_ (fun w' hw' => Or.inl ?_) (fun K hK => ?_) | refine mixsq_yes rfl (by first | rfl | kernel_rfl) 6 (by decide +kernel) ?_ (fun w' hw' => Or.inl ?_) (fun K hK => ?_) | refine mixsq_yes rfl (by first | rfl | kernel_rfl) 7 (by decide +kernel) ?_ (fun w' hw' => Or.inl ?_) (fun K hK => ?_)); rotate_left; (focus (have hb : Below w1.heap.size w1 w' := hw'; have hs := h1.out.below hXh.out hb; have q1 : w'.cell? ⟨gp, off + 1, none⟩ = some (.pointer (some ⟨gt, 0, none⟩)) := (hs.at_.cell (off + 1)).trans hi1.out; go_simp; rfl)); go_simp; refine hK _ ?_; clear hK K)
  refine mixsl_yes rfl (by first | rfl | kernel_rfl) (fun K hK => ?_)
  go_simp
  refine hWc.out.mono ?_
  rintro e w3 ⟨rfl, rfl⟩
  have b3 : Below w1.heap.size w1 w1.drew.drew.drew := by first | exact (Below.refl _ _).drew | exact ((Below.refl _ _).drew).drew | exact (((Below.refl _ _).drew).drew).drew
  refine hK (fun W => Below w1.heap.size w1 W) _ _ (fun _ => ⟨b3, fun _ => b3⟩) ?_
  clear hK K
  iterate 8 ((first | refine mixsq_yes rfl (by first | rfl | kernel_rfl) 0 (by decide +kernel) ?_ (fun w' hw' => Or.inl ?_) (fun K hK => ?_) | refine mixsq_yes rfl (by first | rfl | kernel_rfl) 1 (by decide +kernel) ?_ (fun w' hw' => Or.inl ?_) (fun K hK => ?_) | refine mixsq_yes rfl (by first | rfl | kernel_rfl) 2 (by decide +kernel) ?_ (fun w' hw' => Or.inl ?_) (fun K hK => ?_) | refine mixsq_yes rfl (by first | rfl | kernel_rfl) 3 (by decide +kernel) ?_ (fun w' hw' => Or.inl ?_) (fun K hK => ?_) | refine mixsq_yes rfl (by first | rfl | kernel_rfl) 4 (by decide +kernel) ?_ (fun w' hw' => Or.inl ?_) (fun K hK => ?_) | refine mixsq_yes rfl (by first | rfl | kernel_rfl) 5 (by decide +kernel) ?_ (fun w' hw' => Or.inl ?_) (fun K hK => ?_) | refine mixsq_yes rfl (by first | rfl | kernel_rfl) 6 (by decide +kernel) ?_ (fun w' hw' => Or.inl ?_) (fun K hK => ?_) | refine mixsq_yes rfl (by first | rfl | kernel_rfl) 7 (by decide +kernel) ?_ (fun w' hw' => Or.inl ?_) (fun K hK => ?_)); rotate_left; (focus (have hb : Below w1.heap.size w1 w' := hw'; have hs := h1.out.below hXh.out hb; have q2 := (hs.at_.cell (off + 2)).trans hi2.out; have g5' := g5.out w' hb; go_simp; rfl)); go_simp; refine hK _ ?_; clear hK K)
  iterate 2 ((first | refine mixsq rfl rfl 0 (by decide +kernel) ?_ (fun w' hw' => Or.inl ?_) (fun K hK => ?_) | refine mixsq rfl rfl 1 (by decide +kernel) ?_ (fun w' hw' => Or.inl ?_) (fun K hK => ?_) | refine mixsq rfl rfl 2 (by decide +kernel) ?_ (fun w' hw' => Or.inl ?_) (fun K hK => ?_) | refine mixsq rfl rfl 3 (by decide +kernel) ?_ (fun w' hw' => Or.inl ?_) (fun K hK => ?_) | refine mixsq rfl rfl 4 (by decide +kernel) ?_ (fun w' hw' => Or.inl ?_) (fun K hK => ?_) | refine mixsq rfl rfl 5 (by decide +kernel) ?_ (fun w' hw' => Or.inl ?_) (fun K hK => ?_) | refine mixsq rfl rfl 6 (by decide +kernel) ?_ (fun w' hw' => Or.inl ?_) (fun K hK => ?_) | refine mixsq rfl rfl 7 (by decide +kernel) ?_ (fun w' hw' => Or.inl ?_) (fun K hK => ?_)); rotate_left; (focus (go_simp; rfl)); go_simp; refine hK _ ?_; clear hK K)
  refine mixs_nil ?_
  have h3 := h1.out.below hXh.out hB2.out
  have hfin : Hid (SO W0 w gl g gr bl cl bd cd gp off T cs X x r V M (.returned (.bool true)) w1.drew.drew.drew) := Lib.hid ⟨_, x, some (gt, t), nv, r, rfl, h3.pm.less (fun k hk => .inl hk), by rw [set_same hi1.out]; exact h3.at_, h3.kp, hsp.out⟩
  go_wp2
  go_ret
  exact hfin.out
set_option linter.unusedVariables false in
set_option maxRecDepth 100000 in
set_option maxHeartbeats 8000000 in
theorem step2n {W0 w : World} {gl g gr bl cl bd cd gp off T : Nat} {cs : Array Value} {X : Nat → Prop} {x : Lk} {nv : Value} {r : Rl} {V : Nat → List UInt8} {M : Nat} (h : PM W0 w gl g x (none) gr bl cl bd cd nv r X) (hb : Blk w gp T cs) (i0 : cs[off]? = some (.pointer (some ⟨gl, 0, none⟩))) (i1 : cs[off + 1]? = some (tptr (none))) (i2 : cs[off + 2]? = some (.pointer (some ⟨gr, 0, none⟩))) (hX : X gp) (hg : W0.heap.size ≤ gp) (hT : 5 ≠ T ∧ 3 ≠ T) (hp : PA x V) (ht : Tie x V (none) r) (hf : Fit 135 M x.d) (hM : M ≤ 700000000) (hpn : 0 ≤ x.pn ∧ x.pn ≤ 1000000) (hsy : 0 ≤ r.sy ∧ r.sy ≤ 1000000) (n : Int) (hn : -9223372036854775808 ≤ n ∧ n ≤ 9223372036854775807) (bA : Option Addr) (bc : Nat) (bs : List UInt8) (hv : Rd W0 (.slice bA bs.length bc) (bvs bs)) (hbl : bs.length ≤ 64) : Calls Try.prog 37 #[.pointer (some ⟨gp, off, none⟩), .agg #[.int .i64 2, .int .i64 n, .slice bA bs.length bc]] w (SO W0 w gl g gr bl cl bd cd gp off T cs X x r V M) := by
  have h1 := Lib.hid (SH.begin_ h hb #[.int .i64 2, .int .i64 n, .slice bA bs.length bc])
  obtain ⟨w1, hw1⟩ : ∃ w1, w.alloc (.cells #[.int .i64 2, .int .i64 n, .slice bA bs.length bc] 65) = w1 := ⟨_, rfl⟩
  rw [hw1] at h1
  have hqne : gp ≠ w.heap.size := fun e => by have := h.xl gp hX; omega
  have d0 : w1.cell? ⟨w.heap.size, 0, none⟩ = some (.int .i64 2) := h1.out.ac.cell 0
  have d1 : w1.cell? ⟨w.heap.size, 1, none⟩ = some (.int .i64 n) := h1.out.ac.cell 1
  have d2 : w1.cell? ⟨w.heap.size, 2, none⟩ = some (.slice bA bs.length bc) := h1.out.ac.cell 2
  have p0 : w1.cell? ⟨gp, off, none⟩ = some (.pointer (some ⟨gl, 0, none⟩)) := (h1.out.at_.cell off).trans i0
  have p1 : w1.cell? ⟨gp, off + 1, none⟩ = some (.pointer none) := (h1.out.at_.cell (off + 1)).trans i1
  have p2 : w1.cell? ⟨gp, off + 2, none⟩ = some (.pointer (some ⟨gr, 0, none⟩)) := (h1.out.at_.cell (off + 2)).trans i2
  clear h hb
  have hi1 := Lib.hid i1
  have hi0 := Lib.hid i0
  have hi2 := Lib.hid i2
  have hof : x.d.off = false := hp.pq.of
  have hXh := Lib.hid hX
  have hsp := Lib.hid (SP.quiet (x' := x) (r' := r) hp hf hpn.1 rfl rfl rfl ht rfl)
  have h3 := h1.out.below hXh.out (show Below w1.heap.size w1 w1 from (Below.refl _ _))
  have hfin : Hid (SO W0 w gl g gr bl cl bd cd gp off T cs X x r V M (.returned (.bool true)) w1) := Lib.hid ⟨_, x, none, nv, r, rfl, h3.pm.less (fun k hk => .inl hk), by rw [set_same hi1.out]; exact h3.at_, h3.kp, hsp.out⟩
  clear h3 i0 i1 i2 hp ht hsy hpn hv hqne hf hof hX h1
  go_enter Try.func37, Try.ntmps37
  go_wp2
  go_ret
  exact hfin.out
set_option linter.unusedVariables false in
set_option maxRecDepth 100000 in
set_option maxHeartbeats 8000000 in
theorem step8n {W0 w : World} {gl g gr bl cl bd cd gp off T : Nat} {cs : Array Value} {X : Nat → Prop} {x : Lk} {nv : Value} {r : Rl} {V : Nat → List UInt8} {M : Nat} (h : PM W0 w gl g x (none) gr bl cl bd cd nv r X) (hb : Blk w gp T cs) (i0 : cs[off]? = some (.pointer (some ⟨gl, 0, none⟩))) (i1 : cs[off + 1]? = some (tptr (none))) (i2 : cs[off + 2]? = some (.pointer (some ⟨gr, 0, none⟩))) (hX : X gp) (hg : W0.heap.size ≤ gp) (hT : 5 ≠ T ∧ 3 ≠ T) (hp : PA x V) (ht : Tie x V (none) r) (hf : Fit 135 M x.d) (hM : M ≤ 700000000) (hpn : 0 ≤ x.pn ∧ x.pn ≤ 1000000) (hsy : 0 ≤ r.sy ∧ r.sy ≤ 1000000) (n : Int) (hn : -9223372036854775808 ≤ n ∧ n ≤ 9223372036854775807) (bA : Option Addr) (bc : Nat) (bs : List UInt8) (hv : Rd W0 (.slice bA bs.length bc) (bvs bs)) (hbl : bs.length ≤ 64) : Calls Try.prog 37 #[.pointer (some ⟨gp, off, none⟩), .agg #[.int .i64 8, .int .i64 n, .slice bA bs.length bc]] w (SO W0 w gl g gr bl cl bd cd gp off T cs X x r V M) := by
  have h1 := Lib.hid (SH.begin_ h hb #[.int .i64 8, .int .i64 n, .slice bA bs.length bc])
  obtain ⟨w1, hw1⟩ : ∃ w1, w.alloc (.cells #[.int .i64 8, .int .i64 n, .slice bA bs.length bc] 65) = w1 := ⟨_, rfl⟩
  rw [hw1] at h1
  have hqne : gp ≠ w.heap.size := fun e => by have := h.xl gp hX; omega
  have d0 : w1.cell? ⟨w.heap.size, 0, none⟩ = some (.int .i64 8) := h1.out.ac.cell 0
  have d1 : w1.cell? ⟨w.heap.size, 1, none⟩ = some (.int .i64 n) := h1.out.ac.cell 1
  have d2 : w1.cell? ⟨w.heap.size, 2, none⟩ = some (.slice bA bs.length bc) := h1.out.ac.cell 2
  have p0 : w1.cell? ⟨gp, off, none⟩ = some (.pointer (some ⟨gl, 0, none⟩)) := (h1.out.at_.cell off).trans i0
  have p1 : w1.cell? ⟨gp, off + 1, none⟩ = some (.pointer none) := (h1.out.at_.cell (off + 1)).trans i1
  have p2 : w1.cell? ⟨gp, off + 2, none⟩ = some (.pointer (some ⟨gr, 0, none⟩)) := (h1.out.at_.cell (off + 2)).trans i2
  clear h hb
  have hi1 := Lib.hid i1
  have hi0 := Lib.hid i0
  have hi2 := Lib.hid i2
  have hof : x.d.off = false := hp.pq.of
  have hXh := Lib.hid hX
  have hsp := Lib.hid (SP.quiet (x' := x) (r' := r) hp hf hpn.1 rfl rfl rfl ht rfl)
  have h3 := h1.out.below hXh.out (show Below w1.heap.size w1 w1 from (Below.refl _ _))
  have hfin : Hid (SO W0 w gl g gr bl cl bd cd gp off T cs X x r V M (.returned (.bool true)) w1) := Lib.hid ⟨_, x, none, nv, r, rfl, h3.pm.less (fun k hk => .inl hk), by rw [set_same hi1.out]; exact h3.at_, h3.kp, hsp.out⟩
  clear h3 i0 i1 i2 hp ht hsy hpn hv hqne hf hof hX h1
  go_enter Try.func37, Try.ntmps37
  go_wp2
  go_ret
  exact hfin.out
set_option linter.unusedVariables false in
set_option maxRecDepth 100000 in
set_option maxHeartbeats 8000000 in
theorem step2s {W0 w : World} {gl g gr bl cl bd cd gp off T : Nat} {cs : Array Value} {X : Nat → Prop} {x : Lk} {gt : Nat} {t : Tk} {nv : Value} {r : Rl} {V : Nat → List UInt8} {M : Nat} (h : PM W0 w gl g x (some (gt, t)) gr bl cl bd cd nv r X) (hb : Blk w gp T cs) (i0 : cs[off]? = some (.pointer (some ⟨gl, 0, none⟩))) (i1 : cs[off + 1]? = some (tptr (some (gt, t)))) (i2 : cs[off + 2]? = some (.pointer (some ⟨gr, 0, none⟩))) (hX : X gp) (hg : W0.heap.size ≤ gp) (hT : 5 ≠ T ∧ 3 ≠ T) (hp : PA x V) (ht : Tie x V (some t) r) (hf : Fit 135 M x.d) (hM : M ≤ 700000000) (hpn : 0 ≤ x.pn ∧ x.pn ≤ 1000000) (hsy : 0 ≤ r.sy ∧ r.sy ≤ 1000000) (n : Int) (hn : -9223372036854775808 ≤ n ∧ n ≤ 9223372036854775807) (bA : Option Addr) (bc : Nat) (bs : List UInt8) (hv : Rd W0 (.slice bA bs.length bc) (bvs bs)) (hbl : bs.length ≤ 64) : Calls Try.prog 37 #[.pointer (some ⟨gp, off, none⟩), .agg #[.int .i64 2, .int .i64 n, .slice bA bs.length bc]] w (SO W0 w gl g gr bl cl bd cd gp off T cs X x r V M) := by
  have h1 := Lib.hid (SH.begin_ h hb #[.int .i64 2, .int .i64 n, .slice bA bs.length bc])
  obtain ⟨w1, hw1⟩ : ∃ w1, w.alloc (.cells #[.int .i64 2, .int .i64 n, .slice bA bs.length bc] 65) = w1 := ⟨_, rfl⟩
  rw [hw1] at h1
  have hqne : gp ≠ w.heap.size := fun e => by have := h.xl gp hX; omega
  have d0 : w1.cell? ⟨w.heap.size, 0, none⟩ = some (.int .i64 2) := h1.out.ac.cell 0
  have d1 : w1.cell? ⟨w.heap.size, 1, none⟩ = some (.int .i64 n) := h1.out.ac.cell 1
  have d2 : w1.cell? ⟨w.heap.size, 2, none⟩ = some (.slice bA bs.length bc) := h1.out.ac.cell 2
  have p0 : w1.cell? ⟨gp, off, none⟩ = some (.pointer (some ⟨gl, 0, none⟩)) := (h1.out.at_.cell off).trans i0
  have p1 : w1.cell? ⟨gp, off + 1, none⟩ = some (.pointer (some ⟨gt, 0, none⟩)) := (h1.out.at_.cell (off + 1)).trans i1
  have p2 : w1.cell? ⟨gp, off + 2, none⟩ = some (.pointer (some ⟨gr, 0, none⟩)) := (h1.out.at_.cell (off + 2)).trans i2
  clear h hb
  have hi1 := Lib.hid i1
  have hi0 := Lib.hid i0
  have hi2 := Lib.hid i2
  have hof : x.d.off = false := hp.pq.of
  have hXh := Lib.hid hX
  have hdl := Lib.hid hp.pq.dl
  have hkeep := Lib.hid (fun (t' : Tk) (r' : Rl) (h1 : Tie x V (some t') r') (h2 : r'.sy = r.sy) => SP.quiet (x' := x) (M := M) hp hf hpn.1 rfl rfl rfl h1 h2)
  have hT0 : Hid (Tie x V (some t) r ∧ r.sy = r.sy) := Lib.hid ⟨ht, rfl⟩
  have hnh := Lib.hid hn
  have hvh := Lib.hid hv
  have hblh := Lib.hid hbl
  have hf5 := Lib.hid (fullP_len bs)
  obtain ⟨L, hL⟩ : ∃ L, Hid (bs.length = L) := ⟨_, Lib.hid rfl⟩
  rw [hL.out] at h1 hw1 d2 hvh ⊢
  obtain ⟨Y, hY⟩ : ∃ Y, Hid (fullP bs = Y) := ⟨_, Lib.hid rfl⟩
  rw [hY.out] at hf5
  clear i0 i1 i2 hp ht hsy hpn hv hqne hf hof hX hbl
  go_enter Try.func37, Try.ntmps37
  go_wp2
  go_loopw [9] (fun iv wr => ∃ (i : Nat) (t' : Tk) (r' : Rl), i ≤ 1 ∧ iv = .int .i64 (i : Int) ∧ Hid (SH W0 w wr gl g gr bl cl bd cd gp w.heap.size T cs #[.int .i64 2, .int .i64 n, .slice bA L bc] X x (some (gt, t')) nv r') ∧ Hid (Tie x V (some t') r' ∧ r'.sy = r.sy)) (fun iv _ => 1 - (RowKit.intOf iv).toNat)
  case atStart => exact ⟨0, t, r, Nat.zero_le _, rfl, h1, Lib.hid ⟨hT0.out.1, rfl⟩⟩
  case round =>
    obtain ⟨i, t', r', hi, rfl, h2, hT2⟩ := hrel
    clear h1 hT0 d0 d1 d2 p0 p1 p2
    by_cases hik : i < 1
    · have hik' : (i : Int) < 1 := by omega
      have d0 : wr.cell? ⟨w.heap.size, 0, none⟩ = some (.int .i64 2) := h2.out.ac.cell 0
      have d1 : wr.cell? ⟨w.heap.size, 1, none⟩ = some (.int .i64 n) := h2.out.ac.cell 1
      have d2 : wr.cell? ⟨w.heap.size, 2, none⟩ = some (.slice bA L bc) := h2.out.ac.cell 2
      have hnr := hnh
      go_wp2_with fail
      refine wp_mixs (fun W => Blk W gp T cs ∧ Blk W w.heap.size 65 #[.int .i64 2, .int .i64 n, .slice bA L bc]) [7, 8, 16, 18] (by kernel_rfl) (by kernel_rfl) (by kernel_rfl) (by decide) (show Blk wr.drew _ _ _ ∧ Blk wr.drew _ _ _ from ⟨h2.out.at_, h2.out.ac⟩) ?_
      iterate 7 ((first | refine mixsq rfl rfl 0 (by decide +kernel) ?_ (fun w' hw' => Or.inl ?_) (fun K hK => ?_) | refine mixsq rfl rfl 1 (by decide +kernel) ?_ (fun w' hw' => Or.inl ?_) (fun K hK => ?_) | refine mixsq rfl rfl 2 (by decide +kernel) ?_ (fun w' hw' => Or.inl ?_) (fun K hK => ?_) | refine mixsq rfl rfl 3 (by decide +kernel) ?_ (fun w' hw' => Or.inl ?_) (fun K hK => ?_) | refine mixsq rfl rfl 4 (by decide +kernel) ?_ (fun w' hw' => Or.inl ?_) (fun K hK => ?_) | refine mixsq rfl rfl 5 (by decide +kernel) ?_ (fun w' hw' => Or.inl ?_) (fun K hK => ?_) | refine mixsq rfl rfl 6 (by decide +kernel) ?_ (fun w' hw' => Or.inl ?_) (fun K hK => ?_) | refine mixsq rfl rfl 7 (by decide +kernel) ?_ (fun w' hw' => Or.inl ?_) (fun K hK => ?_)); rotate_left; (focus (have hc : Blk w' gp T cs ∧ Blk w' w.heap.size 65 #[.int .i64 2, .int .i64 n, .slice bA L bc] := hw'; have q1 : w'.cell? ⟨gp, off + 1, none⟩ = some (.pointer (some ⟨gt, 0, none⟩)) := (hc.1.cell (off + 1)).trans hi1.out; have q2 := (hc.1.cell (off + 2)).trans hi2.out; have a2 : w'.cell? ⟨w.heap.size, 2, none⟩ = some (.slice bA L bc) := hc.2.cell 2; go_simp; rfl)); go_simp; refine hK _ ?_; clear hK K)
      refine mixsl rfl rfl (fun K hK => ?_)
      go_simp
      refine (FullB wr.drew bs (.slice bA L bc) (by rw [← hL.out]; exact (by rw [hL.out]; exact hvh.out.below (h2.out.drew hXh.out).pm.bel)) (by have := hblh.out; omega)).mono ?_
      rintro e wa ⟨fA, fc, rfl, hfo, hfb⟩
      rw [hY.out] at hfo
      have h3 := Lib.hid ((h2.out.drew hXh.out).below hXh.out hfb)
      have ba := And.intro h3.out.at_ h3.out.ac
      refine hK (fun W => Blk W gp T cs ∧ Blk W w.heap.size 65 #[.int .i64 2, .int .i64 n, .slice bA L bc]) _ _ (fun _ => ⟨ba, fun _ => ba⟩) ?_
      clear hK K
      refine mixsl rfl rfl (fun K hK => ?_)
      go_simp
      refine (pWrite h3.out.pm hdl.out n hnr.out.1 hnr.out.2 (.slice fA 512 fc) Y (Rd.of_own hfo) (by rw [hf5.out]; omega)).mono ?_
      rintro e wb ⟨rfl, hp4, hk4⟩
      have h4 := Lib.hid (h3.out.step hXh.out hp4 hk4)
      have bb := And.intro h4.out.at_ h4.out.ac
      refine hK (fun W => Blk W gp T cs ∧ Blk W w.heap.size 65 #[.int .i64 2, .int .i64 n, .slice bA L bc]) _ _ (fun _ => ⟨bb, ext_all (fun _ => bb) bb⟩) ?_
      clear hK K ba
      iterate 7 ((first | refine mixsq rfl rfl 0 (by decide +kernel) ?_ (fun w' hw' => Or.inl ?_) (fun K hK => ?_) | refine mixsq rfl rfl 1 (by decide +kernel) ?_ (fun w' hw' => Or.inl ?_) (fun K hK => ?_) | refine mixsq rfl rfl 2 (by decide +kernel) ?_ (fun w' hw' => Or.inl ?_) (fun K hK => ?_) | refine mixsq rfl rfl 3 (by decide +kernel) ?_ (fun w' hw' => Or.inl ?_) (fun K hK => ?_) | refine mixsq rfl rfl 4 (by decide +kernel) ?_ (fun w' hw' => Or.inl ?_) (fun K hK => ?_) | refine mixsq rfl rfl 5 (by decide +kernel) ?_ (fun w' hw' => Or.inl ?_) (fun K hK => ?_) | refine mixsq rfl rfl 6 (by decide +kernel) ?_ (fun w' hw' => Or.inl ?_) (fun K hK => ?_) | refine mixsq rfl rfl 7 (by decide +kernel) ?_ (fun w' hw' => Or.inl ?_) (fun K hK => ?_)); rotate_left; (focus (have hc : Blk w' gp T cs ∧ Blk w' w.heap.size 65 #[.int .i64 2, .int .i64 n, .slice bA L bc] := hw'; have q1 : w'.cell? ⟨gp, off + 1, none⟩ = some (.pointer (some ⟨gt, 0, none⟩)) := (hc.1.cell (off + 1)).trans hi1.out; have q2 := (hc.1.cell (off + 2)).trans hi2.out; have a2 : w'.cell? ⟨w.heap.size, 2, none⟩ = some (.slice bA L bc) := hc.2.cell 2; go_simp; rfl)); go_simp; refine hK _ ?_; clear hK K)
      refine mixsl rfl rfl (fun K hK => ?_)
      go_simp
      refine (FullB wb bs (.slice bA L bc) (hvh.out.below h4.out.pm.bel) (by have := hblh.out; omega)).mono ?_
      rintro e wc ⟨fB, fd, rfl, hfo2, hfb2⟩
      rw [hY.out] at hfo2
      have h5 := Lib.hid (h4.out.below hXh.out hfb2)
      have bc5 := And.intro h5.out.at_ h5.out.ac
      have hrd := Rd.of_own hfo2
      refine hK (fun W => Rd W (.slice fB 512 fd) (bvs Y)) _ _ (fun _ => ⟨hrd, ext_all (ext_all (fun _ => bc5) bc5) bc5⟩) ?_
      clear hK K bb
      (refine mixsq rfl rfl 3 (by decide +kernel) ?_ (fun w' hw' => Or.inl ?_) (fun K hK => ?_)); rotate_left; (focus (have hc : Rd w' (.slice fB 512 fd) (bvs Y) := hw'; have s1 := run_str (P := Try.prog) w' 32 9 5 _ _ Try.underlying32 Try.underlying5 Try.underlying9 (hc); unfold str at s1; go_simp; rfl)); go_simp; refine hK _ ?_; clear hK K
      refine mixsl rfl rfl (fun K hK => ?_)
      go_simp
      refine (RWrite_calls wc h5.out.pm.rg (fun ho => ((hT2.out.1.ts t' rfl).2.2 (hT2.out.1.op.symm.trans ho)).1) (fun ho => by have := ((hT2.out.1.ts t' rfl).2.2 (hT2.out.1.op.symm.trans ho)).2.2; have h63 := (hT2.out.1.ts t' rfl).2.1.k63; omega) n Y (by rw [hf5.out]; omega)).mono ?_
      rintro e wd ⟨rfl, hg6, hc6⟩
      have h6 := Lib.hid (h5.out.ref hXh.out hc6 hg6 (fun k hk => .inl hk))
      have b6 := And.intro h6.out.at_ h6.out.ac
      have hrd6 : Rd wd (.slice fB 512 fd) (bvs Y) := hrd.chg hc6 (fun j hj hs => by
        obtain ⟨cs2, hk2⟩ := own_kindL hfo2 hj
        obtain ⟨_, t2, cs3, hb3, e3, _⟩ := h5.out.pm.rg.kinds hs
        exact absurd rfl (hk2.ne_ hb3 e3))
      refine hK (fun W => True) _ _ (fun _ => ⟨trivial, ext_all (ext_all (ext_all (fun _ => b6) b6) b6) hrd6⟩) ?_
      clear hK K bc5 hrd
      obtain ⟨eW, hT6⟩ := hT2.out.1.write n Y hf5.out
      have hT7 : Hid (Tie x V (some (twriteP 70 t' n Y).2) (rwriteP r' n Y).2 ∧ (rwriteP r' n Y).2.sy = r.sy) := Lib.hid ⟨hT6, by
        rw [← hT2.out.2]
        unfold rwriteP
        split
        · rfl
        · split
          · rfl
          · split
            · split
              · rfl
              · rfl
            · rfl⟩
      rw [eW]
      (first | refine mixsq rfl rfl 0 (by decide +kernel) ?_ (fun w' hw' => Or.inl ?_) (fun K hK => ?_) | refine mixsq rfl rfl 1 (by decide +kernel) ?_ (fun w' hw' => Or.inl ?_) (fun K hK => ?_) | refine mixsq rfl rfl 2 (by decide +kernel) ?_ (fun w' hw' => Or.inl ?_) (fun K hK => ?_) | refine mixsq rfl rfl 3 (by decide +kernel) ?_ (fun w' hw' => Or.inl ?_) (fun K hK => ?_) | refine mixsq rfl rfl 4 (by decide +kernel) ?_ (fun w' hw' => Or.inl ?_) (fun K hK => ?_) | refine mixsq rfl rfl 5 (by decide +kernel) ?_ (fun w' hw' => Or.inl ?_) (fun K hK => ?_) | refine mixsq rfl rfl 6 (by decide +kernel) ?_ (fun w' hw' => Or.inl ?_) (fun K hK => ?_) | refine mixsq rfl rfl 7 (by decide +kernel) ?_ (fun w' hw' => Or.inl ?_) (fun K hK => ?_)); rotate_left; (focus (go_simp; rfl)); go_simp; refine hK _ ?_; clear hK K
      refine mixs_nil ?_
      clear h2 h3 h4 h5 hg6 hc6 b6 hrd6 hT6 eW hT2 hfo hfo2 hfb hfb2 hp4 hk4
      go_wp2
      go_roundw
      case rel => exact ⟨i + 1, _, _, by omega, by go_num, h6, hT7⟩
      case measure => simp [RowKit.intOf]; omega
    · have hfin : Hid (SO W0 w gl g gr bl cl bd cd gp off T cs X x r V M (.returned (.bool true)) wr) := Lib.hid ⟨_, x, some (gt, t'), nv, r', rfl, h2.out.pm.less (fun k hk => .inl hk), by rw [set_same (u := tptr (some (gt, t'))) hi1.out]; exact h2.out.at_, h2.out.kp, hkeep.out _ _ hT2.out.1 hT2.out.2⟩
      have hik' : ¬ (i : Int) < 1 := by omega
      clear h2 hT2
      go_wp2
      go_ret
      exact hfin.out
set_option linter.unusedVariables false in
set_option maxRecDepth 100000 in
set_option maxHeartbeats 8000000 in
theorem step8s {W0 w : World} {gl g gr bl cl bd cd gp off T : Nat} {cs : Array Value} {X : Nat → Prop} {x : Lk} {gt : Nat} {t : Tk} {nv : Value} {r : Rl} {V : Nat → List UInt8} {M : Nat} (h : PM W0 w gl g x (some (gt, t)) gr bl cl bd cd nv r X) (hb : Blk w gp T cs) (i0 : cs[off]? = some (.pointer (some ⟨gl, 0, none⟩))) (i1 : cs[off + 1]? = some (tptr (some (gt, t)))) (i2 : cs[off + 2]? = some (.pointer (some ⟨gr, 0, none⟩))) (hX : X gp) (hg : W0.heap.size ≤ gp) (hT : 5 ≠ T ∧ 3 ≠ T) (hp : PA x V) (ht : Tie x V (some t) r) (hf : Fit 135 M x.d) (hM : M ≤ 700000000) (hpn : 0 ≤ x.pn ∧ x.pn ≤ 1000000) (hsy : 0 ≤ r.sy ∧ r.sy ≤ 1000000) (n : Int) (hn : -9223372036854775808 ≤ n ∧ n ≤ 9223372036854775807) (bA : Option Addr) (bc : Nat) (bs : List UInt8) (hv : Rd W0 (.slice bA bs.length bc) (bvs bs)) (hbl : bs.length ≤ 64) : Calls Try.prog 37 #[.pointer (some ⟨gp, off, none⟩), .agg #[.int .i64 8, .int .i64 n, .slice bA bs.length bc]] w (SO W0 w gl g gr bl cl bd cd gp off T cs X x r V M) := by
  have h1 := Lib.hid (SH.begin_ h hb #[.int .i64 8, .int .i64 n, .slice bA bs.length bc])
  obtain ⟨w1, hw1⟩ : ∃ w1, w.alloc (.cells #[.int .i64 8, .int .i64 n, .slice bA bs.length bc] 65) = w1 := ⟨_, rfl⟩
  rw [hw1] at h1
  have hqne : gp ≠ w.heap.size := fun e => by have := h.xl gp hX; omega
  have d0 : w1.cell? ⟨w.heap.size, 0, none⟩ = some (.int .i64 8) := h1.out.ac.cell 0
  have d1 : w1.cell? ⟨w.heap.size, 1, none⟩ = some (.int .i64 n) := h1.out.ac.cell 1
  have d2 : w1.cell? ⟨w.heap.size, 2, none⟩ = some (.slice bA bs.length bc) := h1.out.ac.cell 2
  have p0 : w1.cell? ⟨gp, off, none⟩ = some (.pointer (some ⟨gl, 0, none⟩)) := (h1.out.at_.cell off).trans i0
  have p1 : w1.cell? ⟨gp, off + 1, none⟩ = some (.pointer (some ⟨gt, 0, none⟩)) := (h1.out.at_.cell (off + 1)).trans i1
  have p2 : w1.cell? ⟨gp, off + 2, none⟩ = some (.pointer (some ⟨gr, 0, none⟩)) := (h1.out.at_.cell (off + 2)).trans i2
  clear h hb
  have hi1 := Lib.hid i1
  have hi0 := Lib.hid i0
  have hi2 := Lib.hid i2
  have hof : x.d.off = false := hp.pq.of
  have hXh := Lib.hid hX
  have hdl := Lib.hid hp.pq.dl
  have hkeep := Lib.hid (fun (t' : Tk) (r' : Rl) (h1 : Tie x V (some t') r') (h2 : r'.sy = r.sy) => SP.quiet (x' := x) (M := M) hp hf hpn.1 rfl rfl rfl h1 h2)
  have hT0 : Hid (Tie x V (some t) r ∧ r.sy = r.sy) := Lib.hid ⟨ht, rfl⟩
  have hnh := Lib.hid hn
  have hvh := Lib.hid hv
  have hblh := Lib.hid hbl
  have hf5 := Lib.hid (fullP_len bs)
  obtain ⟨L, hL⟩ : ∃ L, Hid (bs.length = L) := ⟨_, Lib.hid rfl⟩
  rw [hL.out] at h1 hw1 d2 hvh ⊢
  obtain ⟨Y, hY⟩ : ∃ Y, Hid (fullP bs = Y) := ⟨_, Lib.hid rfl⟩
  rw [hY.out] at hf5
  have m31 : bits .and .i64 n 31 = n % 32 := and_mask n 5 (by decide)
  have m63 : bits .and .i64 n 63 = n % 64 := and_mask n 6 (by decide)
  obtain ⟨K, hK⟩ : ∃ K : Nat, Hid ((K : Int) = 1 + n % 32 ∧ K ≤ 32) := ⟨(1 + n % 32).toNat, Lib.hid ⟨by omega, by omega⟩⟩
  clear i0 i1 i2 hp ht hsy hpn hv hqne hf hof hX hbl
  go_enter Try.func37, Try.ntmps37
  go_wp2
  have eK : (1 : Int) + n % 32 = (K : Int) := hK.out.1.symm
  have eK2 : n % 32 + 1 = (K : Int) := by omega
  have hK32 := hK.out.2
  try rw [eK]
  go_loopw [9] (fun iv wr => ∃ (i : Nat) (t' : Tk) (r' : Rl), i ≤ K ∧ iv = .int .i64 (i : Int) ∧ Hid (SH W0 w wr gl g gr bl cl bd cd gp w.heap.size T cs #[.int .i64 8, .int .i64 n, .slice bA L bc] X x (some (gt, t')) nv r') ∧ Hid (Tie x V (some t') r' ∧ r'.sy = r.sy)) (fun iv _ => K - (RowKit.intOf iv).toNat)
  case atStart => exact ⟨0, t, r, Nat.zero_le _, rfl, h1, Lib.hid ⟨hT0.out.1, rfl⟩⟩
  case round =>
    obtain ⟨i, t', r', hi, rfl, h2, hT2⟩ := hrel
    clear h1 hT0 d0 d1 d2 p0 p1 p2
    by_cases hik : i < K
    · have hik' : (i : Int) < K := by omega
      have d0 : wr.cell? ⟨w.heap.size, 0, none⟩ = some (.int .i64 8) := h2.out.ac.cell 0
      have d1 : wr.cell? ⟨w.heap.size, 1, none⟩ = some (.int .i64 n) := h2.out.ac.cell 1
      have d2 : wr.cell? ⟨w.heap.size, 2, none⟩ = some (.slice bA L bc) := h2.out.ac.cell 2
      obtain ⟨nn, hnn⟩ : ∃ nn : Nat, (nn : Int) = (n % 64 + 2 * (i : Int)) % 70 := ⟨((n % 64 + 2 * (i : Int)) % 70).toNat, by omega⟩
      have hnn2 : (n % 64 + 2 * (i : Int)) % 70 = (nn : Int) := hnn.symm
      have hnr : Hid (-9223372036854775808 ≤ (nn : Int) ∧ (nn : Int) ≤ 9223372036854775807) := Lib.hid ⟨by omega, by omega⟩
      clear hnn
      go_wp2_with fail
      refine wp_mixs (fun W => Blk W gp T cs ∧ Blk W w.heap.size 65 #[.int .i64 8, .int .i64 n, .slice bA L bc]) [7, 8, 16, 18] (by kernel_rfl) (by kernel_rfl) (by kernel_rfl) (by decide) (show Blk wr.drew _ _ _ ∧ Blk wr.drew _ _ _ from ⟨h2.out.at_, h2.out.ac⟩) ?_
      iterate 7 ((first | refine mixsq rfl rfl 0 (by decide +kernel) ?_ (fun w' hw' => Or.inl ?_) (fun K hK => ?_) | refine mixsq rfl rfl 1 (by decide +kernel) ?_ (fun w' hw' => Or.inl ?_) (fun K hK => ?_) | refine mixsq rfl rfl 2 (by decide +kernel) ?_ (fun w' hw' => Or.inl ?_) (fun K hK => ?_) | refine mixsq rfl rfl 3 (by decide +kernel) ?_ (fun w' hw' => Or.inl ?_) (fun K hK => ?_) | refine mixsq rfl rfl 4 (by decide +kernel) ?_ (fun w' hw' => Or.inl ?_) (fun K hK => ?_) | refine mixsq rfl rfl 5 (by decide +kernel) ?_ (fun w' hw' => Or.inl ?_) (fun K hK => ?_) | refine mixsq rfl rfl 6 (by decide +kernel) ?_ (fun w' hw' => Or.inl ?_) (fun K hK => ?_) | refine mixsq rfl rfl 7 (by decide +kernel) ?_ (fun w' hw' => Or.inl ?_) (fun K hK => ?_)); rotate_left; (focus (have hc : Blk w' gp T cs ∧ Blk w' w.heap.size 65 #[.int .i64 8, .int .i64 n, .slice bA L bc] := hw'; have q1 : w'.cell? ⟨gp, off + 1, none⟩ = some (.pointer (some ⟨gt, 0, none⟩)) := (hc.1.cell (off + 1)).trans hi1.out; have q2 := (hc.1.cell (off + 2)).trans hi2.out; have a2 : w'.cell? ⟨w.heap.size, 2, none⟩ = some (.slice bA L bc) := hc.2.cell 2; go_simp; rfl)); go_simp; refine hK _ ?_; clear hK K)
      refine mixsl rfl rfl (fun K hK => ?_)
      go_simp
      refine (FullB wr.drew bs (.slice bA L bc) (by rw [← hL.out]; exact (by rw [hL.out]; exact hvh.out.below (h2.out.drew hXh.out).pm.bel)) (by have := hblh.out; omega)).mono ?_
      rintro e wa ⟨fA, fc, rfl, hfo, hfb⟩
      rw [hY.out] at hfo
      have h3 := Lib.hid ((h2.out.drew hXh.out).below hXh.out hfb)
      have ba := And.intro h3.out.at_ h3.out.ac
      refine hK (fun W => Blk W gp T cs ∧ Blk W w.heap.size 65 #[.int .i64 8, .int .i64 n, .slice bA L bc]) _ _ (fun _ => ⟨ba, fun _ => ba⟩) ?_
      clear hK K
      refine mixsl rfl rfl (fun K hK => ?_)
      go_simp
      refine (pWrite h3.out.pm hdl.out (nn : Int) hnr.out.1 hnr.out.2 (.slice fA 512 fc) Y (Rd.of_own hfo) (by rw [hf5.out]; omega)).mono ?_
      rintro e wb ⟨rfl, hp4, hk4⟩
      have h4 := Lib.hid (h3.out.step hXh.out hp4 hk4)
      have bb := And.intro h4.out.at_ h4.out.ac
      refine hK (fun W => Blk W gp T cs ∧ Blk W w.heap.size 65 #[.int .i64 8, .int .i64 n, .slice bA L bc]) _ _ (fun _ => ⟨bb, ext_all (fun _ => bb) bb⟩) ?_
      clear hK K ba
      iterate 7 ((first | refine mixsq rfl rfl 0 (by decide +kernel) ?_ (fun w' hw' => Or.inl ?_) (fun K hK => ?_) | refine mixsq rfl rfl 1 (by decide +kernel) ?_ (fun w' hw' => Or.inl ?_) (fun K hK => ?_) | refine mixsq rfl rfl 2 (by decide +kernel) ?_ (fun w' hw' => Or.inl ?_) (fun K hK => ?_) | refine mixsq rfl rfl 3 (by decide +kernel) ?_ (fun w' hw' => Or.inl ?_) (fun K hK => ?_) | refine mixsq rfl rfl 4 (by decide +kernel) ?_ (fun w' hw' => Or.inl ?_) (fun K hK => ?_) | refine mixsq rfl rfl 5 (by decide +kernel) ?_ (fun w' hw' => Or.inl ?_) (fun K hK => ?_) | refine mixsq rfl rfl 6 (by decide +kernel) ?_ (fun w' hw' => Or.inl ?_) (fun K hK => ?_) | refine mixsq rfl rfl 7 (by decide +kernel) ?_ (fun w' hw' => Or.inl ?_) (fun K hK => ?_)); rotate_left; (focus (have hc : Blk w' gp T cs ∧ Blk w' w.heap.size 65 #[.int .i64 8, .int .i64 n, .slice bA L bc] := hw'; have q1 : w'.cell? ⟨gp, off + 1, none⟩ = some (.pointer (some ⟨gt, 0, none⟩)) := (hc.1.cell (off + 1)).trans hi1.out; have q2 := (hc.1.cell (off + 2)).trans hi2.out; have a2 : w'.cell? ⟨w.heap.size, 2, none⟩ = some (.slice bA L bc) := hc.2.cell 2; go_simp; rfl)); go_simp; refine hK _ ?_; clear hK K)
      refine mixsl rfl rfl (fun K hK => ?_)
      go_simp
      refine (FullB wb bs (.slice bA L bc) (hvh.out.below h4.out.pm.bel) (by have := hblh.out; omega)).mono ?_
      rintro e wc ⟨fB, fd, rfl, hfo2, hfb2⟩
      rw [hY.out] at hfo2
      have h5 := Lib.hid (h4.out.below hXh.out hfb2)
      have bc5 := And.intro h5.out.at_ h5.out.ac
      have hrd := Rd.of_own hfo2
      refine hK (fun W => Rd W (.slice fB 512 fd) (bvs Y)) _ _ (fun _ => ⟨hrd, ext_all (ext_all (fun _ => bc5) bc5) bc5⟩) ?_
      clear hK K bb
      (refine mixsq rfl rfl 3 (by decide +kernel) ?_ (fun w' hw' => Or.inl ?_) (fun K hK => ?_)); rotate_left; (focus (have hc : Rd w' (.slice fB 512 fd) (bvs Y) := hw'; have s1 := run_str (P := Try.prog) w' 32 9 5 _ _ Try.underlying32 Try.underlying5 Try.underlying9 (hc); unfold str at s1; go_simp; rfl)); go_simp; refine hK _ ?_; clear hK K
      refine mixsl rfl rfl (fun K hK => ?_)
      go_simp
      refine (RWrite_calls wc h5.out.pm.rg (fun ho => ((hT2.out.1.ts t' rfl).2.2 (hT2.out.1.op.symm.trans ho)).1) (fun ho => by have := ((hT2.out.1.ts t' rfl).2.2 (hT2.out.1.op.symm.trans ho)).2.2; have h63 := (hT2.out.1.ts t' rfl).2.1.k63; omega) (nn : Int) Y (by rw [hf5.out]; omega)).mono ?_
      rintro e wd ⟨rfl, hg6, hc6⟩
      have h6 := Lib.hid (h5.out.ref hXh.out hc6 hg6 (fun k hk => .inl hk))
      have b6 := And.intro h6.out.at_ h6.out.ac
      have hrd6 : Rd wd (.slice fB 512 fd) (bvs Y) := hrd.chg hc6 (fun j hj hs => by
        obtain ⟨cs2, hk2⟩ := own_kindL hfo2 hj
        obtain ⟨_, t2, cs3, hb3, e3, _⟩ := h5.out.pm.rg.kinds hs
        exact absurd rfl (hk2.ne_ hb3 e3))
      refine hK (fun W => True) _ _ (fun _ => ⟨trivial, ext_all (ext_all (ext_all (fun _ => b6) b6) b6) hrd6⟩) ?_
      clear hK K bc5 hrd
      obtain ⟨eW, hT6⟩ := hT2.out.1.write (nn : Int) Y hf5.out
      have hT7 : Hid (Tie x V (some (twriteP 70 t' (nn : Int) Y).2) (rwriteP r' (nn : Int) Y).2 ∧ (rwriteP r' (nn : Int) Y).2.sy = r.sy) := Lib.hid ⟨hT6, by
        rw [← hT2.out.2]
        unfold rwriteP
        split
        · rfl
        · split
          · rfl
          · split
            · split
              · rfl
              · rfl
            · rfl⟩
      rw [eW]
      (first | refine mixsq rfl rfl 0 (by decide +kernel) ?_ (fun w' hw' => Or.inl ?_) (fun K hK => ?_) | refine mixsq rfl rfl 1 (by decide +kernel) ?_ (fun w' hw' => Or.inl ?_) (fun K hK => ?_) | refine mixsq rfl rfl 2 (by decide +kernel) ?_ (fun w' hw' => Or.inl ?_) (fun K hK => ?_) | refine mixsq rfl rfl 3 (by decide +kernel) ?_ (fun w' hw' => Or.inl ?_) (fun K hK => ?_) | refine mixsq rfl rfl 4 (by decide +kernel) ?_ (fun w' hw' => Or.inl ?_) (fun K hK => ?_) | refine mixsq rfl rfl 5 (by decide +kernel) ?_ (fun w' hw' => Or.inl ?_) (fun K hK => ?_) | refine mixsq rfl rfl 6 (by decide +kernel) ?_ (fun w' hw' => Or.inl ?_) (fun K hK => ?_) | refine mixsq rfl rfl 7 (by decide +kernel) ?_ (fun w' hw' => Or.inl ?_) (fun K hK => ?_)); rotate_left; (focus (go_simp; rfl)); go_simp; refine hK _ ?_; clear hK K
      refine mixs_nil ?_
      clear h2 h3 h4 h5 hg6 hc6 b6 hrd6 hT6 eW hT2 hfo hfo2 hfb hfb2 hp4 hk4
      go_wp2
      go_roundw
      case rel => exact ⟨i + 1, _, _, by omega, by go_num, h6, hT7⟩
      case measure => simp [RowKit.intOf]; omega
    · have hfin : Hid (SO W0 w gl g gr bl cl bd cd gp off T cs X x r V M (.returned (.bool true)) wr) := Lib.hid ⟨_, x, some (gt, t'), nv, r', rfl, h2.out.pm.less (fun k hk => .inl hk), by rw [set_same (u := tptr (some (gt, t'))) hi1.out]; exact h2.out.at_, h2.out.kp, hkeep.out _ _ hT2.out.1 hT2.out.2⟩
      have hik' : ¬ (i : Int) < K := by omega
      clear h2 hT2
      go_wp2
      go_ret
      exact hfin.out
set_option linter.unusedVariables false in
set_option maxRecDepth 100000 in
set_option maxHeartbeats 8000000 in
theorem step0 {W0 w : World} {gl g gr bl cl bd cd gp off T : Nat} {cs : Array Value} {X : Nat → Prop} {x : Lk} {ot : Option (Nat × Tk)} {nv : Value} {r : Rl} {V : Nat → List UInt8} {M : Nat} (h : PM W0 w gl g x (ot) gr bl cl bd cd nv r X) (hb : Blk w gp T cs) (i0 : cs[off]? = some (.pointer (some ⟨gl, 0, none⟩))) (i1 : cs[off + 1]? = some (tptr (ot))) (i2 : cs[off + 2]? = some (.pointer (some ⟨gr, 0, none⟩))) (hX : X gp) (hg : W0.heap.size ≤ gp) (hT : 5 ≠ T ∧ 3 ≠ T) (hp : PA x V) (ht : Tie x V (ot.map Prod.snd) r) (hf : Fit 135 M x.d) (hM : M ≤ 700000000) (hpn : 0 ≤ x.pn ∧ x.pn ≤ 1000000) (hsy : 0 ≤ r.sy ∧ r.sy ≤ 1000000) (n : Int) (hn : -9223372036854775808 ≤ n ∧ n ≤ 9223372036854775807) (bA : Option Addr) (bc : Nat) (bs : List UInt8) (hv : Rd W0 (.slice bA bs.length bc) (bvs bs)) (hbl : bs.length ≤ 64) (m : Int) (hm : m ≠ 1 ∧ m ≠ 2 ∧ m ≠ 3 ∧ m ≠ 4 ∧ m ≠ 5 ∧ m ≠ 6 ∧ m ≠ 7 ∧ m ≠ 8) : Calls Try.prog 37 #[.pointer (some ⟨gp, off, none⟩), .agg #[.int .i64 m, .int .i64 n, .slice bA bs.length bc]] w (SO W0 w gl g gr bl cl bd cd gp off T cs X x r V M) := by
  have h1 := Lib.hid (SH.begin_ h hb #[.int .i64 m, .int .i64 n, .slice bA bs.length bc])
  obtain ⟨w1, hw1⟩ : ∃ w1, w.alloc (.cells #[.int .i64 m, .int .i64 n, .slice bA bs.length bc] 65) = w1 := ⟨_, rfl⟩
  rw [hw1] at h1
  have hqne : gp ≠ w.heap.size := fun e => by have := h.xl gp hX; omega
  have d0 : w1.cell? ⟨w.heap.size, 0, none⟩ = some (.int .i64 m) := h1.out.ac.cell 0
  have d1 : w1.cell? ⟨w.heap.size, 1, none⟩ = some (.int .i64 n) := h1.out.ac.cell 1
  have d2 : w1.cell? ⟨w.heap.size, 2, none⟩ = some (.slice bA bs.length bc) := h1.out.ac.cell 2
  have p0 : w1.cell? ⟨gp, off, none⟩ = some (.pointer (some ⟨gl, 0, none⟩)) := (h1.out.at_.cell off).trans i0
  have p1 : w1.cell? ⟨gp, off + 1, none⟩ = some (tptr ot) := (h1.out.at_.cell (off + 1)).trans i1
  have p2 : w1.cell? ⟨gp, off + 2, none⟩ = some (.pointer (some ⟨gr, 0, none⟩)) := (h1.out.at_.cell (off + 2)).trans i2
  clear h hb
  have hi1 := Lib.hid i1
  have hi0 := Lib.hid i0
  have hi2 := Lib.hid i2
  have hof : x.d.off = false := hp.pq.of
  have hXh := Lib.hid hX
  have hsp := Lib.hid (SP.quiet (x' := x) (r' := r) hp hf hpn.1 rfl rfl rfl ht rfl)
  have h3 := h1.out.below hXh.out (show Below w1.heap.size w1 w1 from (Below.refl _ _))
  have hfin : Hid (SO W0 w gl g gr bl cl bd cd gp off T cs X x r V M (.returned (.bool true)) w1) := Lib.hid ⟨_, x, ot, nv, r, rfl, h3.pm.less (fun k hk => .inl hk), by rw [set_same hi1.out]; exact h3.at_, h3.kp, hsp.out⟩
  have e1 : (m == 1) = false := beq_eq_false_iff_ne.2 hm.1
  have e2 : (m == 2) = false := beq_eq_false_iff_ne.2 hm.2.1
  have e3 : (m == 3) = false := beq_eq_false_iff_ne.2 hm.2.2.1
  have e4 : (m == 4) = false := beq_eq_false_iff_ne.2 hm.2.2.2.1
  have e5 : (m == 5) = false := beq_eq_false_iff_ne.2 hm.2.2.2.2.1
  have e6 : (m == 6) = false := beq_eq_false_iff_ne.2 hm.2.2.2.2.2.1
  have e7 : (m == 7) = false := beq_eq_false_iff_ne.2 hm.2.2.2.2.2.2.1
  have e8 : (m == 8) = false := beq_eq_false_iff_ne.2 hm.2.2.2.2.2.2.2
  clear h3 i0 i1 i2 hp ht hsy hpn hv hqne hf hof hX h1 hm
  go_enter Try.func37, Try.ntmps37
  go_wp2
  go_ret
  exact hfin.out
theorem step_calls {W0 w : World} {gl g gr bl cl bd cd gp off T : Nat} {cs : Array Value} {X : Nat → Prop} {x : Lk} {ot : Option (Nat × Tk)} {nv : Value} {r : Rl} {V : Nat → List UInt8} {M : Nat} (h : PM W0 w gl g x (ot) gr bl cl bd cd nv r X) (hb : Blk w gp T cs) (i0 : cs[off]? = some (.pointer (some ⟨gl, 0, none⟩))) (i1 : cs[off + 1]? = some (tptr (ot))) (i2 : cs[off + 2]? = some (.pointer (some ⟨gr, 0, none⟩))) (hX : X gp) (hg : W0.heap.size ≤ gp) (hT : 5 ≠ T ∧ 3 ≠ T) (hp : PA x V) (ht : Tie x V (ot.map Prod.snd) r) (hf : Fit 135 M x.d) (hM : M ≤ 700000000) (hpn : 0 ≤ x.pn ∧ x.pn ≤ 1000000) (hsy : 0 ≤ r.sy ∧ r.sy ≤ 1000000) (n : Int) (hn : -9223372036854775808 ≤ n ∧ n ≤ 9223372036854775807) (bA : Option Addr) (bc : Nat) (bs : List UInt8) (hv : Rd W0 (.slice bA bs.length bc) (bvs bs)) (hbl : bs.length ≤ 64) (m : Int) : Calls Try.prog 37 #[.pointer (some ⟨gp, off, none⟩), .agg #[.int .i64 m, .int .i64 n, .slice bA bs.length bc]] w (SO W0 w gl g gr bl cl bd cd gp off T cs X x r V M) := by
  by_cases e5 : m = 5
  · subst e5; exact step5 h hb i0 i1 i2 hX hg hT hp ht hf hM hpn hsy n hn bA bc bs hv hbl
  by_cases e1 : m = 1
  · subst e1
    cases hop : x.op with
    | true => exact step1o h hb i0 i1 i2 hX hg hT hp ht hf hM hpn hsy n hn bA bc bs hv hbl hop
    | false => exact step1n h hb i0 i1 i2 hX hg hT hp ht hf hM hpn hsy n hn bA bc bs hv hbl hop
  by_cases e6 : m = 6
  · subst e6
    by_cases hin : 0 ≤ n ∧ n < 70
    · exact step6i h hb i0 i1 i2 hX hg hT hp ht hf hM hpn hsy n hn bA bc bs hv hbl hin
    · exact step6o h hb i0 i1 i2 hX hg hT hp ht hf hM hpn hsy n hn bA bc bs hv hbl hin
  by_cases e2 : m = 2
  · subst e2
    rcases ot with _ | ⟨gt, t⟩
    · exact step2n h hb i0 i1 i2 hX hg hT hp ht hf hM hpn hsy n hn bA bc bs hv hbl
    · exact step2s h hb i0 i1 i2 hX hg hT hp ht hf hM hpn hsy n hn bA bc bs hv hbl
  by_cases e8 : m = 8
  · subst e8
    rcases ot with _ | ⟨gt, t⟩
    · exact step8n h hb i0 i1 i2 hX hg hT hp ht hf hM hpn hsy n hn bA bc bs hv hbl
    · exact step8s h hb i0 i1 i2 hX hg hT hp ht hf hM hpn hsy n hn bA bc bs hv hbl
  by_cases e3 : m = 3
  · subst e3
    rcases ot with _ | ⟨gt, t⟩
    · exact step3n h hb i0 i1 i2 hX hg hT hp ht hf hM hpn hsy n hn bA bc bs hv hbl
    · cases hop : x.op with
      | true => exact step3o h hb i0 i1 i2 hX hg hT hp ht hf hM hpn hsy n hn bA bc bs hv hbl hop
      | false => exact step3s h hb i0 i1 i2 hX hg hT hp ht hf hM hpn hsy n hn bA bc bs hv hbl hop
  by_cases e4 : m = 4
  · subst e4
    rcases ot with _ | ⟨gt, t⟩
    · exact step4n h hb i0 i1 i2 hX hg hT hp ht hf hM hpn hsy n hn bA bc bs hv hbl
    · exact step4s h hb i0 i1 i2 hX hg hT hp ht hf hM hpn hsy n hn bA bc bs hv hbl
  by_cases e7 : m = 7
  · subst e7
    rcases ot with _ | ⟨gt, t⟩
    · exact step7n h hb i0 i1 i2 hX hg hT hp ht hf hM hpn hsy n hn bA bc bs hv hbl
    · cases hop : x.op with
      | false => exact step7s h hb i0 i1 i2 hX hg hT hp ht hf hM hpn hsy n hn bA bc bs hv hbl hop
      | true =>
        by_cases hin : 0 ≤ n ∧ n < 70
        · exact step7i h hb i0 i1 i2 hX hg hT hp ht hf hM hpn hsy n hn bA bc bs hv hbl hop hin
        · exact step7x h hb i0 i1 i2 hX hg hT hp ht hf hM hpn hsy n hn bA bc bs hv hbl hop hin
  exact step0 h hb i0 i1 i2 hX hg hT hp ht hf hM hpn hsy n hn bA bc bs hv hbl m ⟨e1, e2, e3, e4, e5, e6, e7, e8⟩
end Go.Proofs.Ytlfbfmeppcicnaa
