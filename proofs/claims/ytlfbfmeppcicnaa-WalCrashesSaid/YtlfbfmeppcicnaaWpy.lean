/- Acts of a log's play that came in; are they few? WalPlays, walked. Printed by genwpy.py. -/
import Derived.Test.YtlfbfmeppcicnaaStr
import Derived.Test.YtlfbfmeppcicnaaWst
namespace Go.Proofs.Ytlfbfmeppcicnaa
open Go.RowKit
structure ActV where
  op : Int
  n : Int
  bv : Value
  b : List UInt8
def ActV.row (a : ActV) : List Value := [.int .i64 a.op, .int .i64 a.n, a.bv]
def ActV.ok (w : World) (a : ActV) : Prop := Rd w a.bv (bvs a.b) ∧ a.b.length ≤ 9223372036854775807 ∧ (Lit.int .i64 a.op).wf = true ∧ (Lit.int .i64 a.n).wf = true
def RdA (w : World) (x : Value) (l : List ActV) : Prop := RdF 3 w x (l.map ActV.row) ∧ ∀ a ∈ l, a.ok w
theorem ActV.ok.below {w w' : World} {a : ActV} (h : a.ok w) (hb : Below w.heap.size w w') : a.ok w' := ⟨h.1.below hb, h.2⟩
theorem RdA.below {w w' : World} {x : Value} {l : List ActV} (h : RdA w x l) (hb : Below w.heap.size w w') : RdA w' x l := ⟨h.1.below hb, fun a ha => (h.2 a ha).below hb⟩
theorem RdA.shape {w : World} {x : Value} {l : List ActV} (h : RdA w x l) : ∃ A c, x = .slice A l.length c := by
  obtain ⟨A, c, e⟩ := RdF.shape h.1
  rw [List.length_map] at e
  exact ⟨A, c, e⟩
theorem add_cellA {w : World} {ad : Addr} {j : Nat} {u : Value} (h : w.cell? (ad.add (j + 1)) = some u) : w.cell? ⟨ad.block, ad.off + (j + 1), none⟩ = some u := by
  unfold Addr.add at h
  rw [if_neg (by omega)] at h
  exact h
theorem RdA.at_ {w : World} {A : Option Addr} {n c : Nat} {l : List ActV} (h : RdA w (.slice A n c) l) {k : Nat} (hk : k < l.length) :
    ∃ ad, A = some ad ∧ w.cell? (ad.add (k * 3)) = some (.int .i64 l[k].op) ∧ w.cell? ⟨(ad.add (k * 3)).block, (ad.add (k * 3)).off + 1, none⟩ = some (.int .i64 l[k].n) ∧
      w.cell? ⟨(ad.add (k * 3)).block, (ad.add (k * 3)).off + 2, none⟩ = some l[k].bv := by
  obtain ⟨ad, e, hc⟩ := RdF.at_ h.1 (k := k) (by rw [List.length_map]; exact hk)
  rw [List.getElem_map] at hc
  refine ⟨ad, e, ?_, add_cellA (j := 0) (hc 1 _ rfl), add_cellA (j := 1) (hc 2 _ rfl)⟩
  have := hc 0 _ rfl
  simpa [addr_add_add] using this
def ActV.few (a : ActV) : Bool := decide (a.b.length ≤ 64)
def fewB (l : List ActV) : Bool := decide (l.length ≤ 150) && l.all ActV.few
theorem fewB_no {l : List ActV} {k : Nat} (hk : k < l.length) (h : l[k].few = false) : fewB l = false := by
  unfold fewB
  rw [Bool.and_eq_false_iff]
  exact .inr (List.all_eq_false.2 ⟨l[k], List.getElem_mem hk, by simp [h]⟩)
theorem fewB_at {l : List ActV} (h : fewB l = true) {k : Nat} (hk : k < l.length) : l[k].b.length ≤ 64 := by
  unfold fewB at h
  simp only [Bool.and_eq_true, List.all_eq_true, decide_eq_true_eq] at h
  have := h.2 _ (List.getElem_mem hk)
  unfold ActV.few at this
  simpa using this
theorem fewB_len {l : List ActV} (h : fewB l = true) : l.length ≤ 150 := by
  unfold fewB at h
  simp only [Bool.and_eq_true, decide_eq_true_eq] at h
  exact h.1
set_option maxRecDepth 10000 in
set_option maxHeartbeats 2000000 in
theorem Few_calls (w : World) (x : Value) (l : List ActV) (hx : RdA w x l) (hl : l.length ≤ 9223372036854775807) : Calls Try.prog 35 #[x] w (Ans w (.bool (fewB l))) := by
  have hx0 := Lib.hid hx
  obtain ⟨A, c, rfl⟩ := hx.shape
  clear hx
  by_cases h150 : 150 < l.length
  · have e : fewB l = false := by unfold fewB; rw [decide_eq_false (by omega)]; rfl
    rw [e]
    clear e
    generalize l.length = n at *
    go_enter Try.func35, Try.ntmps35
    go_wp2
    go_ret
    exact ⟨rfl, rfl⟩
  · have hno := Lib.hid (fun k (hk : k < l.length) (h : l[k].few = false) => fewB_no hk h)
    have hyes : Hid ((∀ k (hk : k < l.length), l[k].few = true) → fewB l = true) := fun h => by
      unfold fewB
      rw [decide_eq_true (by omega), Bool.true_and, List.all_eq_true]
      intro a ha
      obtain ⟨k, hk, rfl⟩ := List.getElem_of_mem ha
      exact h k hk
    go_enter Try.func35, Try.ntmps35
    go_wp2
    go_loop [3] (fun i => ∃ k : Nat, k ≤ l.length ∧ i = .int .i64 k ∧ Hid (∀ j (hj : j < l.length), j < k → l[j].few = true)) (fun i => l.length - (RowKit.intOf i).toNat)
    case atStart => exact ⟨0, Nat.zero_le _, rfl, fun j _ h => by omega⟩
    case round =>
      obtain ⟨k, hk, rfl, hA⟩ := hrel
      by_cases hlt : k < l.length
      · obtain ⟨ad, rfl, d0, d1, d2⟩ := hx0.out.at_ hlt
        obtain ⟨hb, hbl, _⟩ := hx0.out.2 _ (List.getElem_mem hlt)
        have hnok := Lib.hid (hno.out k hlt)
        have hstep : Hid (l[k].few = true → ∀ j (hj : j < l.length), j < k + 1 → l[j].few = true) := by
          intro h j hj hjk
          rcases Nat.lt_or_eq_of_le (Nat.lt_succ_iff.1 hjk) with h5 | rfl
          · exact hA.out j hj h5
          · exact h
        obtain ⟨A1, c1, e1⟩ := hb.shape8
        rw [e1] at d2
        have hfew : l[k].few = decide (l[k].b.length ≤ 64) := rfl
        rw [hfew] at hnok hstep
        clear e1 hb hA hfew
        generalize l[k].b.length = n1 at *
        rcases (show 64 < n1 ∨ n1 ≤ 64 by omega) with q1 | q1
        · have hb2 := Lib.hid (hnok.out (by simp; omega))
          clear hnok hstep
          go_wp2
          go_ret
          rw [hb2.out]
          exact ⟨rfl, rfl⟩
        · have hb2 := Lib.hid (hstep.out (by simp; omega))
          clear hnok hstep
          go_wp2
          go_round
          case rel => exact ⟨k + 1, by omega, by go_num, hb2⟩
          case measure => simp [RowKit.intOf]; omega
      · have hE : Hid (fewB l = true) := hyes.out (fun j hj => hA.out j hj (by omega))
        go_wp2
        go_ret
        rw [hE.out]
        exact ⟨rfl, rfl⟩
end Go.Proofs.Ytlfbfmeppcicnaa
namespace Go.Proofs.Ytlfbfmeppcicnaa
open Go.RowKit
theorem exec_load {P : Program} {o : Oper} {a : Act} {w : World} {ty : TypeId} {x : Operand} {ad : Addr} {v : Value} (ho : o.op = .load ty x) (hx : a.eval x = .pointer (some ad)) (hl : (Instr.loadAt ty (.pointer (some ad))).run P w = .ok v w) :
    (execOp a.eval o).run P w = .ok (.value v) w := by
  unfold execOp
  simp only [ho, hx, Sem.run_bind, hl, Result.andThen_ok, Sem.run_pure]
section
variable {W0 w w' : World} {gl g gr bl cl bd cd : Nat} {x : Lk} {ot : Option (Nat × Tk)} {nv : Value} {r : Rl} {X : Nat → Prop} {V V' : Nat → List UInt8}
theorem RG.keep (h : RG w gr bl cl bd cd nv r) (hk : ∀ k, rgS gr bl bd nv k → w'.heap[k]? = w.heap[k]?) : RG w' gr bl cl bd cd nv r := by
  refine ⟨(hk _ (.inl rfl)).trans h.blk, ?_, ?_, h.ll, h.dl, ?_, h.ap⟩
  · obtain ⟨sp, hb⟩ := h.l
    exact ⟨sp, (hk _ (.inr (.inl rfl))).trans hb⟩
  · obtain ⟨sp, hb⟩ := h.d
    exact ⟨sp, (hk _ (.inr (.inr (.inl rfl)))).trans hb⟩
  · rcases h.n with h1 | ⟨b, c, rfl, h2, h3, sp, hb⟩
    · exact .inl h1
    · exact .inr ⟨b, c, rfl, h2, h3, sp, (hk _ (.inr (.inr (.inr rfl)))).trans hb⟩
theorem RowB.rd {b c n : Nat} {t : TypeId} {us : List Value} (h : RowB w t b us) (hn : us.length = n) (hc : n ≤ c) : Rd w (.slice (some ⟨b, 0, none⟩) n c) us := by
  subst hn
  refine ⟨_, _, rfl, hc, fun _ => ⟨_, rfl, fun j u hu => ?_⟩⟩
  have hj : j < us.length := by
    rcases Nat.lt_or_ge j us.length with h1 | h1
    · exact h1
    · rw [List.getElem?_eq_none h1] at hu; cases hu
  have := h.cell hj
  rw [List.getElem?_eq_getElem hj] at hu
  injection hu with hu
  rw [addr_add_at, Nat.zero_add, this, hu]
theorem RG.rdL (h : RG w gr bl cl bd cd nv r) : Rd w (.slice (some ⟨bl, 0, none⟩) r.L.length cl) (r.L.map str) :=
  h.l.rd (List.length_map _) (by rw [h.ll.1]; exact h.ll.2)
/-- The log by itself, all that is the caller's kept. -/
theorem PM.lcx (h : PM W0 w gl g x ot gr bl cl bd cd nv r X) (hl : LA 135 x V) : LC W0 w gl g 135 x V (fun k => X k ∨ rgS gr bl bd nv k) := by
  obtain ⟨S, F, ST, FT, h1, h2, h3, h4, h5⟩ := h.ex
  exact ⟨⟨S, F, h1, fun k hk => ⟨(h5 k (.inl hk)).1, fun hx => hx.elim (h5 k (.inl hk)).2.1 (h5 k (.inl hk)).2.2⟩⟩, hl, h.bel, fun k hk => hk.elim (h.xl k) fun hr => (h.rg.kinds hr).1⟩
theorem PM.make (h : LC W0 w gl g 135 x V (fun _ => False)) (hb : Below w.heap.size w w') (hr : RG w' gr bl cl bd cd (.slice none 0 0) r) (h1 : w.heap.size ≤ gr) (h2 : w.heap.size ≤ bl) (h3 : w.heap.size ≤ bd) : PM W0 w' gl g x none gr bl cl bd cd (.slice none 0 0) r (fun _ => False) := by
  obtain ⟨S, F, g1, g2⟩ := h.ex
  have hs : ∀ k, rgS gr bl bd (.slice none 0 0) k → w.heap.size ≤ k := fun k hk => by
    rcases hk with rfl | rfl | rfl | hk
    · exact h1
    · exact h2
    · exact h3
    · simp [Value.ownBlock] at hk
  exact ⟨⟨S, F, fun _ => False, fun _ => False, g1.below hb, fun p hp => (by cases hp), fun _ _ h => h, fun _ h => h.elim, fun k hk => hk.elim (fun hk => ⟨(g2 k hk).1, id, fun hr => by have := hs k hr; have := g1.lt hk; omega⟩) False.elim⟩, hr, fun k hk => ⟨Nat.le_trans h.bel.size (hs k hk), id⟩, h.bel.trans (hb.mono h.bel.size), fun _ h => h.elim⟩
theorem datP_eq (h : LA 135 x V) (hp : PA x V') {n : Nat} (hn : n < 70) : datP x V n = datP x V' n := by rw [← h.val hn, ← hp.val hn]
theorem Tie.list (h : Tie x V' (ot.map Prod.snd) r) (hl : r.L.length = 70) (hL : LA 135 x V) (hp : PA x V') : r.L = datL 135 x V :=
  list_getD70 r.L [] _ hl fun m hm => by rw [h.L m hm, datP_eq hL hp hm]
end
/-- Between two acts. -/
def PInv (W0 : World) (gl g gr bl cl bd cd gp : Nat) (i : Nat) (W : World) : Prop :=
  ∃ x ot nv r V V0, PM W0 W gl g x ot gr bl cl bd cd nv r (fun k => k = gp) ∧ Blk W gp 62 #[.pointer (some ⟨gl, 0, none⟩), tptr ot, .pointer (some ⟨gr, 0, none⟩)] ∧ LA 135 x V0 ∧ PA x V ∧ Tie x V (ot.map Prod.snd) r ∧ 0 ≤ x.pn ∧ x.pn ≤ i ∧ 0 ≤ r.sy ∧ r.sy ≤ i
/-- What a play's step leaves. -/
def PStep (W0 : World) (gl g gr bl cl bd cd gp : Nat) (i : Nat) (e : Ending) (W : World) : Prop := e = .returned (.bool true) ∧ PInv W0 gl g gr bl cl bd cd gp (i + 1) W
theorem pstep {W0 W : World} {gl g gr bl cl bd cd gp i : Nat} (h : PInv W0 gl g gr bl cl bd cd gp i W) (hi : i ≤ 1000) (hg : W0.heap.size ≤ gp) (a : ActV) (ha : a.ok W0) (hb : a.b.length ≤ 64) :
    Calls Try.prog 37 #[.pointer (some ⟨gp, 0, none⟩), .agg a.row.toArray] W (PStep W0 gl g gr bl cl bd cd gp i) := by
  obtain ⟨x, ot, nv, r, V, V0, h1, h2, h3, h4, h5, p1, p2, p3, p4⟩ := h
  obtain ⟨op, n, bv, b⟩ := a
  obtain ⟨a1, a2, a3, a4⟩ := ha
  simp only at a1 a2 a3 a4 hb
  obtain ⟨bA, bc, rfl⟩ := a1.shape8
  refine (step_calls (M := 0) h1 h2 rfl rfl rfl rfl hg ⟨by decide, by decide⟩ h4 h5 h3.vw.fit (by omega) ⟨p1, by omega⟩ ⟨p3, by omega⟩ n (wf64K a4) bA bc b a1 hb op).mono ?_
  rintro e w' ⟨q, x', ot', nv', r', rfl, g1, g2, g3, g4, g5⟩
  obtain ⟨o1, V1, o2⟩ := g4 ⟨V0, h3⟩
  rcases g5 with hc | ⟨rfl, _, k1, k2, V', k3, k4, k5⟩
  · have := hc.off
    rw [o1] at this
    cases this
  · refine ⟨rfl, x', ot', nv', r', V', V1, g1, g2, o2, k3, k4, k1, by omega, ?_, ?_⟩
    · rcases k5 with ⟨e, _⟩ | ⟨e, _⟩ <;> omega
    · rcases k5 with ⟨e, _⟩ | ⟨e, _⟩ <;> omega
set_option maxRecDepth 100000 in
set_option maxHeartbeats 16000000 in
theorem WalPlays_calls (w : World) {x0 : Value} {l : List ActV} (xx0 : RdA w x0 l) (ll0 : l.length ≤ 9223372036854775807) :
    Calls Try.prog 10 #[x0] w fun e w' => e = .returned (.bool true) ∧ Below w.heap.size w w' := by
  have hFewA := fun (W : World) (hB : Below w.heap.size w W) => Few_calls W x0 l (xx0.below hB) ll0
  obtain ⟨A0, c0, rfl⟩ := xx0.shape
  have hx0 := Lib.hid xx0
  clear xx0
  cases hf0 : fewB l
  · rw [hf0] at hFewA
    have hFew0 := Lib.hid hFewA
    clear hFewA hf0
    go_enter Try.func10, Try.ntmps10
    go_wp2_with fail
    refine (known_calls w).mono ?_
    rintro e w1 ⟨rfl, hB1⟩
    go_wp2_with fail
    refine (hFew0.out w1 hB1).mono ?_
    rintro e w2 ⟨rfl, rfl⟩
    go_wp2
    go_ret
    exact ⟨rfl, hB1⟩
  rw [hf0] at hFewA
  have hFew0 := Lib.hid hFewA
  have hl0 : l.length ≤ 150 := fewB_len hf0
  have hat0 := Lib.hid (fun k (hk : k < l.length) => fewB_at hf0 hk)
  clear hFewA hf0
  have hN : Hid (65 < 135 ∧ 135 ≤ 16000) := ⟨by omega, by omega⟩
  go_enter Try.func10, Try.ntmps10
  go_wp2_with fail
  refine (known_calls w).mono ?_
  rintro e w1 ⟨rfl, hB1⟩
  have hB1h := Lib.hid hB1
  clear hB1
  go_wp2_with fail
  refine (hFew0.out w1 hB1h.out).mono ?_
  rintro e w2 ⟨rfl, rfl⟩
  go_wp2_with fail
  refine (cNew w1 135 (by omega) (by omega)).mono ?_
  rintro e w2 ⟨g, rfl, hd⟩
  have hF := Lib.hid (cFormat hd hN.out)
  clear hd
  go_wp2_with fail
  refine hF.out.mono ?_
  rintro e w3 ⟨d, gl, rfl, hl, _⟩
  have hl := Lib.hid hl
  clear hF
  go_wp2_with fail
  refine (RMake_calls w3).mono ?_
  rintro e w4 ⟨gr, bl, cl, bd, cd, rfl, hR, hB4, q1, q2, q3⟩
  have hP := PM.make hl.out hB4 hR q1 q2 q3
  have hgp : Hid (w1.heap.size ≤ w4.heap.size) := Lib.hid (Nat.le_trans hl.out.bel.size hB4.size)
  obtain ⟨w5, hw5⟩ : ∃ w5, w4.alloc (.cells #[.pointer (some ⟨gl, 0, none⟩), .pointer none, .pointer (some ⟨gr, 0, none⟩)] 62) = w5 := ⟨_, rfl⟩
  have hI : Hid (PInv w1 gl g gr bl cl bd cd w4.heap.size 0 w5) := by
    refine Lib.hid ⟨freshK d, none, .slice none 0 0, newRl, fmtV, fmtV, ?_, by rw [← hw5]; exact Blk.new _ _ _, hl.out.la, PA.of_la hl.out.la, ⟨fun n hn => ?_, fun n hn => getD_repl _ _ _ _ hn, rfl, rfl, fun _ => rfl, fun t e => (by cases e)⟩, Int.le_refl _, Int.le_refl _, Int.le_refl _, Int.le_refl _⟩
    · rw [← hw5]
      exact hP.own (Z := fun _ => False) ((Chg.refl _ w4).alloc _) (fun _ h => h.elim) (fun _ _ _ h => h) (fun _ _ _ h => h) (fun k hk => .inr (by subst hk; exact ⟨Nat.le_refl _, by rw [World.size_alloc]; omega⟩))
    · show (List.replicate 70 zblk).getD n [] = _
      rw [getD_repl _ _ _ _ hn]
      show zblk = fmtV (65 + n)
      unfold fmtV
      rw [if_neg (by omega)]
  obtain ⟨gp, hgpe⟩ : ∃ gp, Hid (w4.heap.size = gp) := ⟨_, Lib.hid rfl⟩
  have hgpe2 : w4.heap.size = gp := hgpe.out
  rw [hgpe.out] at hI hgp
  clear hl hR hB4 q1 q2 q3 hP hgpe
  go_wp2
  clear hw5 hgpe2
  go_loopw [8] (fun iv wr => ∃ i : Nat, i ≤ l.length ∧ iv = .int .i64 (i : Int) ∧ Hid (PInv w1 gl g gr bl cl bd cd gp i wr)) (fun iv _ => l.length - (RowKit.intOf iv).toNat)
  case atStart => exact ⟨0, Nat.zero_le _, rfl, hI⟩
  case round =>
    obtain ⟨i, hi, rfl, hI1⟩ := hrel
    clear hI
    by_cases hik : i < l.length
    · have hik' : (i : Int) < l.length := by omega
      have hBw : Below w.heap.size w wr := by
        obtain ⟨x, ot, nv, r, V, V0, h1, _⟩ := hI1.out
        exact hB1h.out.trans (h1.bel.mono hB1h.out.size)
      obtain ⟨ad, rfl, hcl⟩ := RdF.at_ (hx0.out.below hBw).1 (k := i) (by rw [List.length_map]; exact hik)
      rw [List.getElem_map] at hcl
      have hx1 := Lib.hid (hx0.out.below hB1h.out)
      have hld : Hid (∀ W, Below w.heap.size w W → (Instr.loadAt 65 (.pointer (some (ad.add (i * 3))))).run Try.prog W = .ok (.agg l[i].row.toArray) W) := Lib.hid fun W hb => run_loadAt_cells W _ 65 l[i].row _ (fun j u hu => by
        obtain ⟨ad', e', hc'⟩ := RdF.at_ (hx0.out.below hb).1 (k := i) (by rw [List.length_map]; exact hik)
        injection e' with e'
        subst e'
        rw [List.getElem_map] at hc'
        exact hc' j u hu) Try.underlying65 rfl (by kernel_rfl)
      have hst := Lib.hid (fun (W : World) (h : PInv w1 gl g gr bl cl bd cd gp i W) => pstep h (by omega) hgp.out l[i] (hx1.out.2 _ (List.getElem_mem hik)) (hat0.out i hik))
      obtain ⟨a, ha⟩ : ∃ a, Hid (l[i] = a) := ⟨_, Lib.hid rfl⟩
      rw [ha.out] at hld hst
      have hI2 : Hid (PInv w1 gl g gr bl cl bd cd gp i wr.drew) := by
        obtain ⟨x, ot, nv, r, V, V0, h1, h2, h3⟩ := hI1.out
        exact Lib.hid ⟨x, ot, nv, r, V, V0, h1.below ((Below.refl _ _).drew), h2, h3⟩
      have hBwh := Lib.hid hBw
      clear hcl hBw
      go_wp2_with fail
      refine wp_mixs (fun W => Below w.heap.size w W) [5, 12] (by kernel_rfl) (by kernel_rfl) (by kernel_rfl) (by decide) (hBwh.out.drew) ?_
      iterate 4 ((first | refine mixsq rfl rfl 0 (by decide +kernel) ?_ (fun w' hw' => Or.inl ?_) (fun K hK => ?_) | refine mixsq rfl rfl 1 (by decide +kernel) ?_ (fun w' hw' => Or.inl ?_) (fun K hK => ?_) | refine mixsq rfl rfl 2 (by decide +kernel) ?_ (fun w' hw' => Or.inl ?_) (fun K hK => ?_) | refine mixsq rfl rfl 3 (by decide +kernel) ?_ (fun w' hw' => Or.inl ?_) (fun K hK => ?_) | refine mixsq rfl rfl 4 (by decide +kernel) ?_ (fun w' hw' => Or.inl ?_) (fun K hK => ?_) | refine mixsq rfl rfl 5 (by decide +kernel) ?_ (fun w' hw' => Or.inl ?_) (fun K hK => ?_) | refine mixsq rfl rfl 6 (by decide +kernel) ?_ (fun w' hw' => Or.inl ?_) (fun K hK => ?_) | refine mixsq rfl rfl 7 (by decide +kernel) ?_ (fun w' hw' => Or.inl ?_) (fun K hK => ?_)); rotate_left; (focus (go_simp; rfl)); go_simp; refine hK _ ?_; clear hK K)
      refine mixsq rfl rfl 0 (by decide +kernel) (.agg a.row.toArray) (fun w' hw' => Or.inl (exec_load rfl rfl (hld.out w' hw'))) (fun K hK => ?_)
      go_simp
      refine hK _ ?_
      clear hK K
      refine mixsl rfl rfl (fun K hK => ?_)
      go_simp
      refine (hst.out wr.drew hI2.out).mono ?_
      rintro e wb ⟨rfl, hIb⟩
      obtain ⟨x, ot, nv, r, V, V0, h1, h2, h3, h4, h5, h6⟩ := hIb
      have hPe := Lib.hid (pPending h1)
      have hpe := Lib.hid h5.pn
      have hIc : Hid (PInv w1 gl g gr bl cl bd cd gp (i + 1) wb) := Lib.hid ⟨x, ot, nv, r, V, V0, h1, h2, h3, h4, h5, h6⟩
      have hcls : Blk wb gp 62 #[.pointer (some ⟨gl, 0, none⟩), tptr ot, .pointer (some ⟨gr, 0, none⟩)] ∧ wb.cell? ⟨gr, 2, none⟩ = some (.int .i64 x.pn) := ⟨h2, by rw [← hpe.out]; exact h1.rg.blk.cell 2⟩
      have hbb : Below w.heap.size w wb := hB1h.out.trans (h1.bel.mono hB1h.out.size)
      clear h1 h3 h4 h5 h6 h2 hI2
      refine hK (fun W => Blk W gp 62 #[.pointer (some ⟨gl, 0, none⟩), tptr ot, .pointer (some ⟨gr, 0, none⟩)] ∧ W.cell? ⟨gr, 2, none⟩ = some (.int .i64 x.pn)) _ _ (fun _ => ⟨hcls, fun _ => hbb⟩) ?_
      clear hK K
      iterate 2 ((first | refine mixsq rfl rfl 0 (by decide +kernel) ?_ (fun w' hw' => Or.inl ?_) (fun K hK => ?_) | refine mixsq rfl rfl 1 (by decide +kernel) ?_ (fun w' hw' => Or.inl ?_) (fun K hK => ?_) | refine mixsq rfl rfl 2 (by decide +kernel) ?_ (fun w' hw' => Or.inl ?_) (fun K hK => ?_) | refine mixsq rfl rfl 3 (by decide +kernel) ?_ (fun w' hw' => Or.inl ?_) (fun K hK => ?_) | refine mixsq rfl rfl 4 (by decide +kernel) ?_ (fun w' hw' => Or.inl ?_) (fun K hK => ?_) | refine mixsq rfl rfl 5 (by decide +kernel) ?_ (fun w' hw' => Or.inl ?_) (fun K hK => ?_) | refine mixsq rfl rfl 6 (by decide +kernel) ?_ (fun w' hw' => Or.inl ?_) (fun K hK => ?_) | refine mixsq rfl rfl 7 (by decide +kernel) ?_ (fun w' hw' => Or.inl ?_) (fun K hK => ?_)); rotate_left; (focus (go_simp; rfl)); go_simp; refine hK _ ?_; clear hK K)
      iterate 4 ((first | refine mixsq_yes rfl (by first | rfl | kernel_rfl) 0 (by decide +kernel) ?_ (fun w' hw' => Or.inl ?_) (fun K hK => ?_) | refine mixsq_yes rfl (by first | rfl | kernel_rfl) 1 (by decide +kernel) ?_ (fun w' hw' => Or.inl ?_) (fun K hK => ?_) | refine mixsq_yes rfl (by first | rfl | kernel_rfl) 2 (by decide +kernel) ?_ (fun w' hw' => Or.inl ?_) (fun K hK => ?_) | refine mixsq_yes rfl (by first | rfl | kernel_rfl) 3 (by decide +kernel) ?_ (fun w' hw' => Or.inl ?_) (fun K hK => ?_) | refine mixsq_yes rfl (by first | rfl | kernel_rfl) 4 (by decide +kernel) ?_ (fun w' hw' => Or.inl ?_) (fun K hK => ?_) | refine mixsq_yes rfl (by first | rfl | kernel_rfl) 5 (by decide +kernel) ?_ (fun w' hw' => Or.inl ?_) (fun K hK => ?_) | refine mixsq_yes rfl (by first | rfl | kernel_rfl) 6 (by decide +kernel) ?_ (fun w' hw' => Or.inl ?_) (fun K hK => ?_) | refine mixsq_yes rfl (by first | rfl | kernel_rfl) 7 (by decide +kernel) ?_ (fun w' hw' => Or.inl ?_) (fun K hK => ?_)); rotate_left; (focus (have hc : Blk w' gp 62 #[.pointer (some ⟨gl, 0, none⟩), tptr ot, .pointer (some ⟨gr, 0, none⟩)] ∧ w'.cell? ⟨gr, 2, none⟩ = some (.int .i64 x.pn) := hw'; have c0 := hc.1.cell 0; have c2 := hc.1.cell 2; have c5 := hc.2; go_simp; rfl)); go_simp; refine hK _ ?_; clear hK K)
      refine mixsl_yes rfl (by first | rfl | kernel_rfl) (fun K hK => ?_)
      go_simp
      refine hPe.out.mono ?_
      rintro e wc ⟨rfl, rfl⟩
      refine hK (fun W => Blk W gp 62 #[.pointer (some ⟨gl, 0, none⟩), tptr ot, .pointer (some ⟨gr, 0, none⟩)] ∧ W.cell? ⟨gr, 2, none⟩ = some (.int .i64 x.pn)) _ _ (fun _ => ⟨hcls, ext_all (fun _ => hbb) hcls⟩) ?_
      clear hK K
      iterate 8 ((first | refine mixsq_yes rfl (by first | rfl | kernel_rfl) 0 (by decide +kernel) ?_ (fun w' hw' => Or.inl ?_) (fun K hK => ?_) | refine mixsq_yes rfl (by first | rfl | kernel_rfl) 1 (by decide +kernel) ?_ (fun w' hw' => Or.inl ?_) (fun K hK => ?_) | refine mixsq_yes rfl (by first | rfl | kernel_rfl) 2 (by decide +kernel) ?_ (fun w' hw' => Or.inl ?_) (fun K hK => ?_) | refine mixsq_yes rfl (by first | rfl | kernel_rfl) 3 (by decide +kernel) ?_ (fun w' hw' => Or.inl ?_) (fun K hK => ?_) | refine mixsq_yes rfl (by first | rfl | kernel_rfl) 4 (by decide +kernel) ?_ (fun w' hw' => Or.inl ?_) (fun K hK => ?_) | refine mixsq_yes rfl (by first | rfl | kernel_rfl) 5 (by decide +kernel) ?_ (fun w' hw' => Or.inl ?_) (fun K hK => ?_) | refine mixsq_yes rfl (by first | rfl | kernel_rfl) 6 (by decide +kernel) ?_ (fun w' hw' => Or.inl ?_) (fun K hK => ?_) | refine mixsq_yes rfl (by first | rfl | kernel_rfl) 7 (by decide +kernel) ?_ (fun w' hw' => Or.inl ?_) (fun K hK => ?_)); rotate_left; (focus (have hc : Blk w' gp 62 #[.pointer (some ⟨gl, 0, none⟩), tptr ot, .pointer (some ⟨gr, 0, none⟩)] ∧ w'.cell? ⟨gr, 2, none⟩ = some (.int .i64 x.pn) := hw'; have c0 := hc.1.cell 0; have c2 := hc.1.cell 2; have c5 := hc.2; go_simp; rfl)); go_simp; refine hK _ ?_; clear hK K)
      (first | refine mixsq rfl rfl 0 (by decide +kernel) ?_ (fun w' hw' => Or.inl ?_) (fun K hK => ?_) | refine mixsq rfl rfl 1 (by decide +kernel) ?_ (fun w' hw' => Or.inl ?_) (fun K hK => ?_) | refine mixsq rfl rfl 2 (by decide +kernel) ?_ (fun w' hw' => Or.inl ?_) (fun K hK => ?_) | refine mixsq rfl rfl 3 (by decide +kernel) ?_ (fun w' hw' => Or.inl ?_) (fun K hK => ?_) | refine mixsq rfl rfl 4 (by decide +kernel) ?_ (fun w' hw' => Or.inl ?_) (fun K hK => ?_) | refine mixsq rfl rfl 5 (by decide +kernel) ?_ (fun w' hw' => Or.inl ?_) (fun K hK => ?_) | refine mixsq rfl rfl 6 (by decide +kernel) ?_ (fun w' hw' => Or.inl ?_) (fun K hK => ?_) | refine mixsq rfl rfl 7 (by decide +kernel) ?_ (fun w' hw' => Or.inl ?_) (fun K hK => ?_)); rotate_left; (focus (go_simp; rfl)); go_simp; refine hK _ ?_; clear hK K
      refine mixs_nil ?_
      clear hPe hpe hcls hbb hI1
      go_wp2
      go_roundw
      case rel => exact ⟨i + 1, by omega, by go_num, hIc⟩
      case measure => simp [RowKit.intOf]; omega
    · obtain rfl : i = l.length := by omega
      obtain ⟨x, ot, nv, r, V, V0, h1, h2, hl, hp, ht, _⟩ := hI1.out
      have hlist := Lib.hid (ht.list h1.rg.ll.1 hl hp)
      have hrd := h1.rg.rdL
      have hl70 := Lib.hid h1.rg.ll.1
      rw [h1.rg.ll.1] at hrd
      have hLC := h1.lcx hl
      have hAll := Lib.hid (all_callsL (hLC.below ((Below.refl _ _).drew)) hN.out (.slice (some ⟨bl, 0, none⟩) 70 cl) r.L hrd.drew (by rw [h1.rg.ll.1]; omega))
      rw [decide_eq_true hlist.out] at hAll
      have h1h := Lib.hid h1
      have h2h := Lib.hid h2
      have hlh := Lib.hid hl
      have hB1w := Lib.hid (hB1h.out.trans (h1.bel.mono hB1h.out.size))
      clear h1 h2 hl hp ht hrd hLC hI1
      go_wp2_with fail
      refine wp_mixs (fun W => Below wr.heap.size wr W) [11] (by kernel_rfl) (by kernel_rfl) (by kernel_rfl) (by decide) ((Below.refl _ _).drew) ?_
      iterate 11 ((first | refine mixsq rfl rfl 0 (by decide +kernel) ?_ (fun w' hw' => Or.inl ?_) (fun K hK => ?_) | refine mixsq rfl rfl 1 (by decide +kernel) ?_ (fun w' hw' => Or.inl ?_) (fun K hK => ?_) | refine mixsq rfl rfl 2 (by decide +kernel) ?_ (fun w' hw' => Or.inl ?_) (fun K hK => ?_) | refine mixsq rfl rfl 3 (by decide +kernel) ?_ (fun w' hw' => Or.inl ?_) (fun K hK => ?_) | refine mixsq rfl rfl 4 (by decide +kernel) ?_ (fun w' hw' => Or.inl ?_) (fun K hK => ?_) | refine mixsq rfl rfl 5 (by decide +kernel) ?_ (fun w' hw' => Or.inl ?_) (fun K hK => ?_) | refine mixsq rfl rfl 6 (by decide +kernel) ?_ (fun w' hw' => Or.inl ?_) (fun K hK => ?_) | refine mixsq rfl rfl 7 (by decide +kernel) ?_ (fun w' hw' => Or.inl ?_) (fun K hK => ?_)); rotate_left; (focus (have hb : Below wr.heap.size wr w' := hw'; have hk := (hb.block _ h2h.out.lt).trans h2h.out; have c0 := Blk.cell hk 0; have c2 := Blk.cell hk 2; have e0 := (h1h.out.below hb).rg.blk.cell 0; go_simp; rfl)); go_simp; refine hK _ ?_; clear hK K)
      refine mixsl rfl rfl (fun K hK => ?_)
      go_simp
      refine hAll.out.mono ?_
      rintro e wb ⟨rfl, hBb⟩
      have hBb : Below wr.heap.size wr wb := ⟨hBb.os, hBb.tape, hBb.output, hBb.size, hBb.block⟩
      refine hK (fun W => Below wr.heap.size wr W) _ _ (fun _ => ⟨hBb, fun _ => hBb⟩) ?_
      clear hK K
      (first | refine mixsq rfl rfl 0 (by decide +kernel) ?_ (fun w' hw' => Or.inl ?_) (fun K hK => ?_) | refine mixsq rfl rfl 1 (by decide +kernel) ?_ (fun w' hw' => Or.inl ?_) (fun K hK => ?_) | refine mixsq rfl rfl 2 (by decide +kernel) ?_ (fun w' hw' => Or.inl ?_) (fun K hK => ?_) | refine mixsq rfl rfl 3 (by decide +kernel) ?_ (fun w' hw' => Or.inl ?_) (fun K hK => ?_) | refine mixsq rfl rfl 4 (by decide +kernel) ?_ (fun w' hw' => Or.inl ?_) (fun K hK => ?_) | refine mixsq rfl rfl 5 (by decide +kernel) ?_ (fun w' hw' => Or.inl ?_) (fun K hK => ?_) | refine mixsq rfl rfl 6 (by decide +kernel) ?_ (fun w' hw' => Or.inl ?_) (fun K hK => ?_) | refine mixsq rfl rfl 7 (by decide +kernel) ?_ (fun w' hw' => Or.inl ?_) (fun K hK => ?_)); rotate_left; (focus (go_simp; rfl)); go_simp; refine hK _ ?_; clear hK K
      refine mixs_nil ?_
      have h3 := Lib.hid (h1h.out.below hBb)
      have k3 : Hid (Blk wb gp 62 #[.pointer (some ⟨gl, 0, none⟩), tptr ot, .pointer (some ⟨gr, 0, none⟩)]) := Lib.hid ((hBb.block _ h2h.out.lt).trans h2h.out)
      clear hBb h1h h2h hAll
      rcases ot with _ | ⟨gt, t⟩
      · obtain ⟨x2, hx2⟩ : ∃ x2 : Lk, Hid (x2 = x) := ⟨_, Lib.hid rfl⟩
        have hl2 := hlh
        have h4 := h3
        have k4 := k3
        have hli2 := hlist
        rw [← hx2.out] at h4 hl2 hli2
        clear h3 k3 hlist hlh
        have p0 : wb.cell? ⟨gp, 0, none⟩ = some (.pointer (some ⟨gl, 0, none⟩)) := k4.out.cell 0
        have p1 : wb.cell? ⟨gp, 1, none⟩ = some (.pointer none) := k4.out.cell 1
        have hLC := h4.out.lcx hl2.out
        have hSy := Lib.hid (cSync hLC hN.out)
        have hrg4 := Lib.hid h4.out.rg
        clear h4 hLC
        go_wp2_with fail
        refine hSy.out.mono ?_
        rintro e we ⟨rfl, d5, V5, ⟨h5, hk5⟩, hv5⟩
        have hrg5 := Lib.hid (hrg4.out.keep fun k hk => hk5 k (.inr hk))
        have k5 := hk5.blk k4.out (.inl rfl)
        have hOp := Lib.hid (cOpen h5.dc hN.out h5.la.h0)
        have hv5 := Lib.hid hv5
        clear hSy hrg4 k4 hk5 h5 p0
        have k5 := Lib.hid k5
        go_wp2_with fail
        refine hOp.out.mono ?_
        rintro e wf ⟨gl2, rfl, h6, hk6⟩
        have hrg6 := Lib.hid (hrg5.out.keep fun k hk => hk6 k (.inr hk))
        have k6 := hk6.blk k5.out (.inl rfl)
        have p2 : wf.cell? ⟨gp, 2, none⟩ = some (.pointer (some ⟨gr, 0, none⟩)) := k6.cell 2
        have c0 : wf.cell? ⟨gr, 0, none⟩ = some (.slice (some ⟨bl, 0, none⟩) 70 cl) := hrg6.out.blk.cell 0
        have hli6 : r.L = datL 135 (freshK d5) V5 := by
          rw [hli2.out]
          exact List.map_congr_left fun n hn => (hv5.out n (List.mem_range.1 hn)).symm
        have hrd6 := hrg6.out.rdL
        rw [hl70.out] at hrd6
        have hAl2 := all_callsL h6 hN.out (.slice (some ⟨bl, 0, none⟩) 70 cl) r.L hrd6 (by rw [hl70.out]; omega)
        rw [decide_eq_true hli6] at hAl2
        have hAl2 := Lib.hid hAl2
        have hBe := Lib.hid h6.bel
        clear hOp hrg5 k5 h6 hk6 hrg6 k6 hli6 hrd6
        go_wp2_with fail
        refine hAl2.out.mono ?_
        rintro e wg ⟨rfl, hBg⟩
        have hfin := Lib.hid (hB1h.out.trans ((hBe.out.trans (hBg.mono hBe.out.size)).mono hB1h.out.size))
        clear hBg hAl2
        go_wp2
        go_ret
        exact ⟨rfl, hfin.out⟩
      · have hA := Lib.hid (pAbort h3.out)
        have p1 : wb.cell? ⟨gp, 1, none⟩ = some (.pointer (some ⟨gt, 0, none⟩)) := k3.out.cell 1
        go_wp2_with fail
        refine hA.out.mono ?_
        rintro e wd ⟨rfl, h4, hk4⟩
        have k4 : Hid (Blk wd gp 62 #[.pointer (some ⟨gl, 0, none⟩), tptr (some (gt, t)), .pointer (some ⟨gr, 0, none⟩)]) := Lib.hid (hk4.blk k3.out rfl)
        have hxd : (abortP x t).1.d = x.d ∧ (abortP x t).1.wt = x.wt := by unfold abortP; split <;> exact ⟨rfl, rfl⟩
        obtain ⟨x2, hx2⟩ : ∃ x2 : Lk, Hid (x2 = (abortP x t).1) := ⟨_, Lib.hid rfl⟩
        rw [← hx2.out] at h4 hxd
        have hl2 : Hid (LA 135 x2 V0) := Lib.hid ⟨by rw [hxd.1]; exact hlh.out.vw, by rw [hxd.1]; exact hlh.out.st, hlh.out.h0, by rw [hxd.2]; exact hlh.out.wl, by rw [hxd.2]; exact hlh.out.k63⟩
        have hli2 : Hid (r.L = datL 135 x2 V0) := by
          rw [hlist.out]
          refine Lib.hid ?_
          unfold datL datP
          rw [hxd.2]
        have h4 := Lib.hid h4
        have p0 : wd.cell? ⟨gp, 0, none⟩ = some (.pointer (some ⟨gl, 0, none⟩)) := k4.out.cell 0
        clear h3 k3 hlist hlh hA p1 hxd
        have hLC := h4.out.lcx hl2.out
        have hSy := Lib.hid (cSync hLC hN.out)
        have hrg4 := Lib.hid h4.out.rg
        clear h4 hLC
        go_wp2_with fail
        refine hSy.out.mono ?_
        rintro e we ⟨rfl, d5, V5, ⟨h5, hk5⟩, hv5⟩
        have hrg5 := Lib.hid (hrg4.out.keep fun k hk => hk5 k (.inr hk))
        have k5 := hk5.blk k4.out (.inl rfl)
        have hOp := Lib.hid (cOpen h5.dc hN.out h5.la.h0)
        have hv5 := Lib.hid hv5
        clear hSy hrg4 k4 hk5 h5 p0
        have k5 := Lib.hid k5
        go_wp2_with fail
        refine hOp.out.mono ?_
        rintro e wf ⟨gl2, rfl, h6, hk6⟩
        have hrg6 := Lib.hid (hrg5.out.keep fun k hk => hk6 k (.inr hk))
        have k6 := hk6.blk k5.out (.inl rfl)
        have p2 : wf.cell? ⟨gp, 2, none⟩ = some (.pointer (some ⟨gr, 0, none⟩)) := k6.cell 2
        have c0 : wf.cell? ⟨gr, 0, none⟩ = some (.slice (some ⟨bl, 0, none⟩) 70 cl) := hrg6.out.blk.cell 0
        have hli6 : r.L = datL 135 (freshK d5) V5 := by
          rw [hli2.out]
          exact List.map_congr_left fun n hn => (hv5.out n (List.mem_range.1 hn)).symm
        have hrd6 := hrg6.out.rdL
        rw [hl70.out] at hrd6
        have hAl2 := all_callsL h6 hN.out (.slice (some ⟨bl, 0, none⟩) 70 cl) r.L hrd6 (by rw [hl70.out]; omega)
        rw [decide_eq_true hli6] at hAl2
        have hAl2 := Lib.hid hAl2
        have hBe := Lib.hid h6.bel
        clear hOp hrg5 k5 h6 hk6 hrg6 k6 hli6 hrd6
        go_wp2_with fail
        refine hAl2.out.mono ?_
        rintro e wg ⟨rfl, hBg⟩
        have hfin := Lib.hid (hB1h.out.trans ((hBe.out.trans (hBg.mono hBe.out.size)).mono hB1h.out.size))
        clear hBg hAl2
        go_wp2
        go_ret
        exact ⟨rfl, hfin.out⟩
end Go.Proofs.Ytlfbfmeppcicnaa
