/- The log: Open; what a log tells; Begin. The log: what it tells; a transaction begins. -/
import Derived.Test.YtefbmbfhhhjgkaaWj
namespace Go.Proofs.Ytefbmbfhhhjgkaa
open Go.RowKit
theorem LM.wrote {F : Nat → Prop} {w w' : World} {gl g mb : Nat} {mf : Nat → Option Value} {Sd S : Nat → Prop} {x : Lk} {d : Dk} (h : LM F w gl g mb mf Sd x) (hs : ∀ k, S k ↔ Sd k ∨ k = gl ∨ k = mb) (hw : WroteO w Sd F g d w') (hl : d.l.length = x.d.l.length) : LWrote w S F gl g ⟨d, x.wt, x.pn, x.op⟩ w' := by
  obtain ⟨Sn, Fn, g1, g2, g3, g4, g5⟩ := hw.wide h.dk.fl
  refine ⟨_, Fn, ⟨mb, mf, Sn, ⟨h.blk.chg g2 h.ng, g1, ?_, fun e => (g3 _ e).elim h.ng (Nat.not_le.2 h.blk.lt), fun e => (g3 _ e).elim h.nm (Nat.not_le.2 h.mp.im.lt)⟩, fun k => Iff.rfl⟩, g2.mono (fun k _ hk => (hs k).2 (.inl hk)), fun k hk => ?_, g4⟩
  · show MBv Fn w' mb (d.l.length - 65) mf x.wt
    rw [hl]
    exact (h.mp.chg g2 h.nm h.dk.not8).wider fun k hk _ => g5 k hk
  · rcases hk with hk | hk
    · rcases g3 k hk with h1 | h1
      · exact .inl ((hs k).2 (.inl h1))
      · exact .inr h1
    · exact .inl ((hs k).2 (.inr hk))
theorem LWrote.from {w w1 w' : World} {S S1 F : Nat → Prop} {gl g : Nat} {x : Lk} (hb : Below w.heap.size w w1) (hs : ∀ k, S1 k → S k ∨ w.heap.size ≤ k) (h : LWrote w1 S1 F gl g x w') : LWrote w S F gl g x w' := by
  obtain ⟨S', F', h1, h2, h3, h4⟩ := h
  refine ⟨S', F', h1, ((Chg.of_below hb : Chg (fun _ => False) w w1).mono (fun _ _ h => h.elim)).then_ h2 (fun i hi h => (hs i h).resolve_right (by omega)), fun k hk => ?_, fun k hk => ?_⟩
  · rcases h3 k hk with h | h
    · exact hs k h
    · exact .inr (Nat.le_trans hb.size h)
  · rcases h4 k hk with h | h
    · exact .inl h
    · exact .inr (Nat.le_trans hb.size h)
theorem len_settle {N M : Nat} {d : Dk} (hf : Fit N M d) (ns : List Nat) : (settleW ns d).2.l.length = d.l.length := by rw [(Gr.settleW N ns M d hf).dl, hf.dl]
set_option maxRecDepth 10000 in
set_option maxHeartbeats 8000000 in
theorem Open_calls (w : World) {g N M : Nat} {d : Dk} {S F : Nat → Prop} (hd : DO w g d S F) (hf : Fit N M d) (hM : M ≤ 800000000) (hN : N ≤ 16384) : Calls Try.prog 32 #[.pointer (some ⟨g, 0, none⟩)] w (FormatOut w S F g (openP d)) := by
  have hA := Lib.hid (askW_calls w hd)
  obtain ⟨o, ho⟩ : ∃ o, Hid (openP d = o) := ⟨_, Lib.hid rfl⟩
  rw [ho.out]
  have hd0 := Lib.hid hd
  have hf0 := Lib.hid hf
  have hNh := Lib.hid hN
  have hMh := Lib.hid hM
  clear hd hf hM hN
  go_enter Try.func32, Try.ntmps32
  go_wp2_with fail
  refine hA.out.mono ?_
  rintro e w1 ⟨rfl, rfl⟩
  clear hA
  by_cases ha : askW d = 0
  · have hN65 : 65 < N ∧ d.off = false := by
      have h := ha
      unfold askW at h
      rw [hf0.out.dl] at h
      split at h
      · cases h
      · split at h
        · cases h
        · rename_i h1 h2
          exact ⟨by omega, by simpa using h2⟩
    have hask : askP d 0 = 0 := by
      unfold askP
      rw [if_neg (by simp [hN65.2]), if_neg (by rw [hf0.out.dl]; omega)]
    have ho2 : Hid ((match headsP (lastP d 0) (N - 65) with
      | none => (3, d)
      | some ns => if ns = [] then (0, d) else settleW ns d) = o) := by
      show _ = _
      rw [← ho.out]
      unfold openP
      rw [if_neg (by simp [ha]), hf0.out.dl]
      rfl
    have hRd := Lib.hid (Read_callsO w g d S hd0.out 0 (by rw [hf0.out.dl]; exact hNh.out) (fun vs hvs => by have := waitP_le d hvs; have := hf0.out.wt; have := hMh.out; omega))
    rw [ha]
    clear ho ha
    go_wp2_with fail
    refine hRd.out.mono ?_
    rintro e w2 (⟨_, r, rfl, hor, hB2, hr2⟩ | ⟨h, _⟩)
    rotate_left
    · exact absurd hask h
    have hor : Own8 w2 r (lastP d 0) := hor
    have hd2 := hd0.out.below hB2
    have hl5 : (lastP d 0).length = 512 := lastP_len hd2.dk (by rw [hf0.out.dl]; omega)
    have hBl := Blocks_callsO w2 g d S hd2
    rw [hf0.out.dl] at hBl
    have hHd := Lib.hid (heads_calls w2 r (lastP d 0) (Rd.of_own hor) hl5 (N - 65) (by have := hNh.out; omega))
    rw [show ((N - 65 : Nat) : Int) = (N : Int) - 65 by have := hN65.1; omega] at hHd
    have hd2 := Lib.hid hd2
    have hB2 := Lib.hid hB2
    have hwN : IntKind.i64.wrap ((N : Int) - 65) = (N : Int) - 65 := by have := hN65.1; have := hNh.out; rw [IntKind.wrap_i64]; omega
    clear hRd hor hr2 hl5 hask
    go_wp2_with fail
    refine hBl.mono ?_
    rintro e w3 ⟨rfl, rfl⟩
    clear hBl
    go_wp2_with fail
    refine hHd.out.mono ?_
    rintro e w3 ⟨v, b, rfl, hB3, hm⟩
    have hB3w : Below w.heap.size w w3 := hB2.out.trans (hB3.mono hB2.out.size)
    cases hh : headsP (lastP d 0) (N - 65) with
    | none =>
      rw [hh] at hm ho2
      dsimp only at hm ho2
      subst hm
      have hfin : Hid (FormatOut w S F g o (.returned (.tuple #[.pointer none, .int .i64 3])) w3) := by
        left
        rw [← ho2.out]
        exact ⟨(show (3 : Int) ≠ 0 by decide), rfl, WroteO.from hB3w (WroteO.refl (hd0.out.below hB3w))⟩
      clear hHd ho2 hB3 hB3w
      go_wp2
      go_ret2
      exact hfin.out
    | some ns =>
      rw [hh] at hm ho2
      dsimp only at hm ho2
      obtain ⟨rfl, hrow⟩ := hm
      have hd3 := hd0.out.below hB3w
      have hfr := Lib.hid (fresh_calls w3 hd3)
      have hns : ns.length ≤ 63 ∧ ∀ n ∈ ns, n < N - 65 := by
        unfold headsP at hh
        split at hh
        · cases hh
        · split at hh
          · cases hh
          · split at hh
            · rename_i h1 h2 h3
              injection hh with hh
              subst hh
              exact ⟨by rw [numsP_len]; omega, fun n hn => by have := List.all_eq_true.1 h3 n hn; simpa using this⟩
            · cases hh
      obtain ⟨vA, vc, rfl⟩ := own_shape hrow
      have hvn : Hid (∀ j, (Value.slice vA ns.length vc).ownBlock = some j → w.heap.size ≤ j) := fun j hj => Nat.le_trans hB2.out.size (own_geI hrow j hj)
      have hvl : Hid (∀ j, (Value.slice vA ns.length vc).ownBlock = some j → j < w3.heap.size) := fun j hj => (World.ownsRow.lt hrow j hj).2
      have hrd := Lib.hid (Rd.of_own hrow)
      have hnsh := Lib.hid hns
      have hB3w := Lib.hid hB3w
      obtain ⟨q, hq⟩ : ∃ q, Hid (ns.length = q) := ⟨_, Lib.hid rfl⟩
      rw [hq.out] at hvn hvl hrd
      have hqe := hq.out
      rw [hqe]
      clear hqe hHd hB3 hrow hh hd3 hns
      go_wp2_with fail
      refine hfr.out.mono ?_
      rintro e w4 ⟨gl, rfl, hgl, hB4, S4, ⟨mb, mf, Sd, hL, hs4⟩, hS4⟩
      have hB4w : Below w.heap.size w w4 := hB3w.out.trans (hB4.mono hB3w.out.size)
      have hS4w : ∀ k, S4 k → S k ∨ w.heap.size ≤ k := fun k hk => by
        rcases hS4 k hk with h | h
        · exact .inl h
        · exact .inr (Nat.le_trans hB3w.out.size h)
      by_cases hn0 : ns = []
      · have hqn : ¬ ((0 : Int) < (q : Int)) := by
          have : q = 0 := by rw [← hq.out, hn0]; rfl
          omega
        have hfin : Hid (FormatOut w S F g o (.returned (.tuple #[.pointer (some ⟨gl, 0, none⟩), .int .i64 0])) w4) := by
          right
          have h := ho2.out
          rw [if_pos hn0] at h
          rw [← h]
          refine ⟨rfl, gl, rfl, Nat.le_trans hB3w.out.size hgl, S4, F, ⟨mb, mf, Sd, hL, hs4⟩, (Chg.of_below hB4w : Chg (fun _ => False) w w4).mono (fun _ _ h => h.elim), hS4w, fun _ h => .inl h⟩
        clear hfr ho2 hL hs4 hS4 hS4w hB4 hB4w hn0 hgl
        go_wp2
        go_ret2
        exact hfin.out
      · have hqp : (0 : Int) < (q : Int) := by
          have : ns.length ≠ 0 := fun e => hn0 (List.eq_nil_of_length_eq_zero e)
          rw [hq.out] at this
          omega
        have hrd4 := hrd.out.below hB4
        have hSd : ∀ k, Sd k → S k ∨ w.heap.size ≤ k := fun k hk => hS4w k ((hs4 k).2 (.inl hk))
        have hSt := Lib.hid (settle_calls w4 hL.dk hf0.out (by have := hMh.out; omega) hNh.out hL.blk rfl hL.ng (.slice vA q vc) ns hrd4 (fun j hj hs => by
          rcases hSd j hs with h1 | h1
          · have := hd0.out.lt h1
            have := hvn.out j hj
            omega
          · have h2 := hvl.out j hj
            rcases hS4 j ((hs4 j).2 (.inl hs)) with h3 | h3
            · have := hd0.out.lt h3
              have := hvn.out j hj
              omega
            · omega) (fun j hj => Nat.lt_of_lt_of_le (hvl.out j hj) hB4.size) hnsh.out.1 (fun n hn => by have := hnsh.out.2 n hn; have := hNh.out; omega))
        have ho3 : Hid (settleW ns d = o) := by
          have h := ho2.out
          rw [if_neg hn0] at h
          exact h
        have hls := Lib.hid (len_settle hf0.out ns)
        change Hid (Calls _ _ _ w4 fun e w' => e = .returned (.int .i64 (settleW ns d).1) ∧ WroteO w4 Sd F g (settleW ns d).2 w') at hSt
        rw [ho3.out] at hls hSt
        have hL := Lib.hid hL
        have hB4w := Lib.hid hB4w
        have hgl2 := Lib.hid (Nat.le_trans hB3w.out.size hgl)
        clear hfr ho2 hrd4 hn0 hgl hS4 hB4 ho3
        obtain ⟨er, dd⟩ := o
        dsimp only at hls hSt
        go_wp2_with fail
        refine hSt.out.mono ?_
        rintro e w5 ⟨rfl, hw⟩
        by_cases h0 : er = 0
        · subst h0
          have hfin : Hid (FormatOut w S F g (0, dd) (.returned (.tuple #[.pointer (some ⟨gl, 0, none⟩), .int .i64 0])) w5) := by
            right
            exact ⟨rfl, gl, rfl, hgl2.out, LWrote.from hB4w.out hS4w (hL.out.wrote hs4 hw hls.out)⟩
          clear hSt hw hL hls hs4 hS4w hSd
          go_wp2
          go_ret2
          exact hfin.out
        · have hfin : Hid (FormatOut w S F g (er, dd) (.returned (.tuple #[.pointer none, .int .i64 er])) w5) := by
            left
            refine ⟨h0, rfl, ?_⟩
            obtain ⟨Sn, Fn, g1, g2, g3, g4⟩ := hw
            refine ⟨Sn, Fn, g1, ((Chg.of_below hB4w.out : Chg (fun _ => False) w w4).mono (fun _ _ h => h.elim)).then_ g2 (fun i hi h => (hSd i h).resolve_right (by omega)), fun k hk => ?_, fun k hk => ?_⟩
            · rcases g3 k hk with h | h
              · exact hSd k h
              · exact .inr (Nat.le_trans hB4w.out.size h)
            · rcases g4 k hk with h | h
              · exact .inl h
              · exact .inr (Nat.le_trans hB4w.out.size h)
          clear hSt hw hL hls hs4 hS4w hSd
          go_wp2
          go_ret2
          exact hfin.out
  · have hfin : Hid (FormatOut w S F g o (.returned (.tuple #[.pointer none, .int .i64 (askW d)])) w) := by
      left
      rw [← ho.out]
      unfold openP
      rw [if_pos ha]
      exact ⟨ha, rfl, WroteO.refl hd0.out⟩
    generalize askW d = er at *
    clear ho
    go_wp2
    go_ret2
    exact hfin.out
end Go.Proofs.Ytefbmbfhhhjgkaa
namespace Go.Proofs.Ytefbmbfhhhjgkaa
open Go.RowKit Go.Maps Go.MapKept Go.ChangeMaps
section
variable {P : Program} {kt mt et : TypeId} {w w' : World} {b N : Nat} {f : Nat → Option Value}
def fI {α : Type} (f : Nat → Option α) (n : Int) : Option α := if 0 ≤ n then f n.toNat else none
theorem IM.run_lookup_okI (h : IM P kt w b N f) (hkt : P.underlying kt = some (.int .i64)) (ht : P.underlying mt = some (.map kt et)) {z : Value} (hz : (zeroValue et).run P w = .ok z w) {n : Int} (h1 : -9223372036854775808 ≤ n) (h2 : n ≤ 9223372036854775807) :
    (Instr.lookup mt (.map (some b)) (.int .i64 n) true).run P w = .ok (.tuple #[(fI f n).getD z, .bool (fI f n).isSome]) w := by
  by_cases h0 : 0 ≤ n
  · obtain ⟨k, rfl⟩ := Int.eq_ofNat_of_zero_le h0
    have := h.run_lookup_ok hkt ht hz (k := k) (by omega)
    unfold fI
    rw [if_pos h0, Int.toNat_natCast]
    exact this
  · obtain ⟨D, ho, hd⟩ := h
    obtain ⟨v, ps, hrun, hv⟩ := ho.look_ok (int_keyed hkt) ht hz (zd := .held z) (zp := []) rfl (keyOf_int_mk hkt (WalkArith.wf_i64 ⟨h1, by omega⟩))
    have hno : Maps.has D (.int .i64 n) = false := by
      cases hh : Maps.has D (.int .i64 n) with
      | false => rfl
      | true =>
        obtain ⟨k, _, e⟩ := hd.has_key hh
        unfold ik at e
        injection e with _ e
        omega
    rw [hrun, hno]
    rw [atKey_of_not_has hno] at hv
    unfold fI
    rw [if_neg h0]
    injection hv with hv
    injection hv with hv
    injection hv with hv
    rw [hv]
    rfl
theorem wpList_im_lookup_okI {ops : Array Oper} {rest : List Oper} {o : Oper} {a : Act} {Q : Exit → Act → World → Prop} (hg : o.guard = none) {m x : Operand} (hop : o.op = Op.lookup mt m x true) (hkt : P.underlying kt = some (.int .i64)) (ht : P.underlying mt = some (.map kt et)) {z : Value} (hz : (zeroValue et).run P w = .ok z w)
    (hown : IM P kt w b N f) (hm : a.eval m = .map (some b)) {n : Int} (hx : a.eval x = .int .i64 n) (h1 : -9223372036854775808 ≤ n) (h2 : n ≤ 9223372036854775807) {v : Value} {ok : Bool} (hv : Hid ((fI f n).getD z = v ∧ (fI f n).isSome = ok)) (hK : wpList P ops Q rest (a.put o.dst (.tuple #[v, .bool ok])) w) : wpList P ops Q (o :: rest) a w := by
  refine wpList_plain hg fun K' hK' => ?_
  have hrun := hown.run_lookup_okI hkt ht hz h1 h2
  rw [hv.out.1, hv.out.2] at hrun
  unfold Oper.wp
  simp [execOp, hop, hm, hx, hrun, Result.andThen]
  exact hK' _ _ hK
theorem IM.run_clear (h : IM P kt w b N f) (ht : P.underlying mt = some (.map kt et)) (ty : TypeId) :
    ∃ w', (Builtin.clear_ #[mt] ty #[.map (some b)]).run P w = .ok (.tuple #[]) w' ∧ IM P kt w' b N (fun _ => none) ∧ w.mapTurned w' b := by
  obtain ⟨D, ⟨es, clock, hb, Ft, hs, hD⟩, hd⟩ := h
  refine ⟨setBlock w b (.map #[] clock), ?_, ⟨.map [], ⟨#[], clock, ?_, ⟨by simp, MapKept.stamped_empty clock, by simp⟩, Nat.zero_le _, rfl⟩, KD.empty N⟩, es, clock, #[], clock, hb, rfl⟩
  · simp [Builtin.clear_, run_underlying ht, MapKept.run_getObj_map hb, MapKept.run_setObj_map _ hb, Result.andThen]
    rfl
  · exact (MapKept.heap_set hb).1
end
variable {F : Nat → Prop}
/-- What a look-up in a map of blocks gives. -/
theorem MBv.look {w : World} {b N : Nat} {mf : Nat → Option Value} {f : Nat → Option (List UInt8)} (h : MBv F w b N mf f) (n : Int) :
    (fI f n = none ∧ (fI mf n).getD (.slice none 0 0) = .slice none 0 0 ∧ (fI mf n).isSome = false) ∨ ∃ bs A c, fI f n = some bs ∧ (fI mf n).getD (.slice none 0 0) = .slice A 512 c ∧ (fI mf n).isSome = true ∧ bs.length = 512 ∧ RdT F 5 w (.slice A 512 c) (bvs bs) := by
  unfold fI
  by_cases h0 : 0 ≤ n
  · rw [if_pos h0, if_pos h0]
    rcases h.at_ n.toNat with ⟨h1, h2⟩ | ⟨bs, v, h1, h2, h3, h4⟩
    · rw [h1, h2]
      exact .inl ⟨rfl, rfl, rfl⟩
    · obtain ⟨A, c, rfl⟩ := h4.shape
      rw [bvs_length, h3] at h2 h4
      rw [h1, h2]
      exact .inr ⟨bs, A, c, rfl, rfl, rfl, h3, h4⟩
  · rw [if_neg h0, if_neg h0]
    exact .inl ⟨rfl, rfl, rfl⟩
set_option maxRecDepth 10000 in
theorem LBlocks_calls (w : World) {gl g : Nat} {x : Lk} {S : Nat → Prop} (h : LO w gl g x S F) (hN : x.d.l.length ≤ 16384) : Calls Try.prog 14 #[.pointer (some ⟨gl, 0, none⟩)] w (Ans w (.int .i64 ((x.d.l.length : Int) - 65))) := by
  obtain ⟨mb, mf, Sd, hL, _⟩ := h
  have c0 : w.cell? ⟨gl, 0, none⟩ = some (.pointer (some ⟨g, 0, none⟩)) := hL.blk.cell 0
  have hB := Blocks_callsO w g x.d Sd hL.dk
  generalize x.d.l.length = N at *
  have hw : IntKind.i64.wrap ((N : Int) - 65) = (N : Int) - 65 := by rw [IntKind.wrap_i64]; omega
  clear hL
  go_enter Try.func14, Try.ntmps14
  go_wp2_with fail
  refine hB.mono ?_
  rintro e w1 ⟨rfl, rfl⟩
  clear hB
  go_wp2
  go_ret
  exact ⟨rfl, rfl⟩
def lreadE (x : Lk) (n : Int) : Int := if n < 0 ∨ (x.d.l.length : Int) - 65 ≤ n then 1 else if x.d.off = true then 6 else 0
def lvalP (x : Lk) (k : Nat) : List UInt8 := (x.wt k).getD (lastP x.d (65 + k))
/-- What a Read leaves: the error, or a copy. -/
def RdOut (w : World) (er : Int) (bs : List UInt8) (e : Ending) (w' : World) : Prop :=
  (er = 0 ∧ ∃ r, e = .returned (.tuple #[r, .int .i64 0]) ∧ Own8 w' r bs ∧ Below w.heap.size w w' ∧ ∀ k, r.ownBlock = some k → w.heap.size ≤ k) ∨
  (er ≠ 0 ∧ e = .returned (.tuple #[.slice none 0 0, .int .i64 er]) ∧ w = w')
set_option maxRecDepth 10000 in
set_option maxHeartbeats 4000000 in
theorem LRead_calls (w : World) {gl g N M : Nat} {x : Lk} {S : Nat → Prop} (h : LO w gl g x S F) (hf : Fit N M x.d) (hM : M ≤ 900000000) (hN : N ≤ 16384) (n : Int) : Calls Try.prog 88 #[.pointer (some ⟨gl, 0, none⟩), .int .i64 n] w (RdOut w (lreadE x n) (lvalP x n.toNat)) := by
  have hBl := Lib.hid (LBlocks_calls w h (by rw [hf.dl]; exact hN))
  obtain ⟨mb, mf, Sd, hL, _⟩ := h
  have c0 : w.cell? ⟨gl, 0, none⟩ = some (.pointer (some ⟨g, 0, none⟩)) := hL.blk.cell 0
  have c1 : w.cell? ⟨gl, 1, none⟩ = some (.map (some mb)) := hL.blk.cell 1
  have hO := Lib.hid (Off_callsO w g x.d Sd hL.dk)
  have hE : Hid (lreadE x n = if n < 0 ∨ (N : Int) - 65 ≤ n then 1 else if x.d.off = true then 6 else 0) := by
    show _ = _
    unfold lreadE
    rw [hf.dl]
  rw [hf.dl] at hBl
  obtain ⟨er, her⟩ : ∃ r, Hid (lreadE x n = r) := ⟨_, Lib.hid rfl⟩
  rw [her.out] at hE ⊢
  clear her
  by_cases h1 : n < 0
  · have he : Hid (er = 1) := by show _ = _; rw [hE.out, if_pos (.inl h1)]
    have hfin : Hid (RdOut w er (lvalP x n.toNat) (.returned (.tuple #[.slice none 0 0, .int .i64 1])) w) := .inr ⟨by rw [he.out]; decide, by rw [he.out], rfl⟩
    clear hE he hL hf hBl hO
    go_enter Try.func88, Try.ntmps88
    go_wp2
    go_ret2
    exact hfin.out
  · by_cases h2 : (N : Int) - 65 ≤ n
    · have he : Hid (er = 1) := by show _ = _; rw [hE.out, if_pos (.inr h2)]
      have hfin : Hid (RdOut w er (lvalP x n.toNat) (.returned (.tuple #[.slice none 0 0, .int .i64 1])) w) := .inr ⟨by rw [he.out]; decide, by rw [he.out], rfl⟩
      clear hE he hL hf hO
      go_enter Try.func88, Try.ntmps88
      go_wp2_with fail
      refine hBl.out.mono ?_
      rintro e w1 ⟨rfl, rfl⟩
      clear hBl
      go_wp2
      go_ret2
      exact hfin.out
    · have hE2 : Hid (er = if x.d.off = true then 6 else 0) := by show _ = _; rw [hE.out, if_neg (by omega)]
      clear hE
      cases hof : x.d.off with
      | true =>
        have he : Hid (er = 6) := by show _ = _; rw [hE2.out, hof]; rfl
        have hfin : Hid (RdOut w er (lvalP x n.toNat) (.returned (.tuple #[.slice none 0 0, .int .i64 6])) w) := .inr ⟨by rw [he.out]; decide, by rw [he.out], rfl⟩
        rw [hof] at hO
        clear hE2 he hL hf
        go_enter Try.func88, Try.ntmps88
        go_wp2_with fail
        refine hBl.out.mono ?_
        rintro e w1 ⟨rfl, rfl⟩
        clear hBl
        go_wp2_with fail
        refine hO.out.mono ?_
        rintro e w1 ⟨rfl, rfl⟩
        clear hO
        go_wp2
        go_ret2
        exact hfin.out
      | false =>
        have he : Hid (er = 0) := by show _ = _; rw [hE2.out, hof]; rfl
        rw [hof] at hO
        obtain ⟨k, rfl⟩ := Int.eq_ofNat_of_zero_le (show 0 ≤ n by omega)
        have hk : k + 65 < N := by omega
        have him := hL.mp.im
        have hzl := zero_slB
        rw [Int.toNat_natCast]
        rcases hL.mp.at_ k with ⟨hf0, hm0⟩ | ⟨bs, v, hf0, hm0, h5, hr⟩
        · have hRd := Lib.hid (Read_callsO w g x.d Sd hL.dk (65 + (k : Int)) (by rw [hf.dl]; exact hN) (fun vs hvs => by have := waitP_le x.d hvs; have := hf.wt; omega))
          have hask : askP x.d (65 + (k : Int)) = 0 := by
            unfold askP
            rw [if_neg (by simp [hof]), if_neg (by rw [hf.dl]; omega)]
          have hask := Lib.hid hask
          have hlv : Hid (lvalP x k = lastP x.d (65 + k)) := by show _ = _; unfold lvalP; rw [hf0]; rfl
          have hlk : Hid ((mf k).getD (.slice none 0 0) = .slice none 0 0 ∧ (mf k).isSome = false) := by rw [hm0]; exact ⟨rfl, rfl⟩
          have hw65 : IntKind.i64.wrap (65 + (k : Int)) = 65 + (k : Int) := by rw [IntKind.wrap_i64]; omega
          clear hL hf hE2 hf0 hm0 hof
          go_enter Try.func88, Try.ntmps88
          go_wp2_with fail
          refine hBl.out.mono ?_
          rintro e w1 ⟨rfl, rfl⟩
          clear hBl
          go_wp2_with fail
          refine hO.out.mono ?_
          rintro e w1 ⟨rfl, rfl⟩
          clear hO
          go_wp2_with (at_lookup; refine wpList_im_lookup_ok rfl rfl Try.underlying3 Try.underlying72 (hzl w) him rfl (k := k) rfl (by omega) hlk ?_)
          refine hRd.out.mono ?_
          rintro e w2 (⟨_, r, rfl, hor, hB, hr2⟩ | ⟨h, _⟩)
          · have hfin : Hid (RdOut w er (lvalP x k) (.returned (.tuple #[r, .int .i64 0])) w2) := .inl ⟨he.out, r, rfl, by rw [hlv.out]; exact hor, hB, hr2⟩
            clear hRd him hor hB hr2
            go_wp2
            go_ret2
            exact hfin.out
          · exact absurd hask.out h
        · obtain ⟨A, c, rfl⟩ := hr.shape
          have hlv : Hid (lvalP x k = bs) := by show _ = _; unfold lvalP; rw [hf0]; rfl
          rw [bvs_length, h5] at hm0
          have hCl := Lib.hid (Clone8_calls w _ bs hr.1 (by rw [h5]; omega))
          rw [bvs_length, h5] at hCl
          have hlk : Hid ((mf k).getD (.slice none 0 0) = .slice A 512 c ∧ (mf k).isSome = true) := by rw [hm0]; exact ⟨rfl, rfl⟩
          clear hL hf hE2 hf0 hm0 hof hr
          go_enter Try.func88, Try.ntmps88
          go_wp2_with fail
          refine hBl.out.mono ?_
          rintro e w1 ⟨rfl, rfl⟩
          clear hBl
          go_wp2_with fail
          refine hO.out.mono ?_
          rintro e w1 ⟨rfl, rfl⟩
          clear hO
          go_wp2_with (at_lookup; refine wpList_im_lookup_ok rfl rfl Try.underlying3 Try.underlying72 (hzl w) him rfl (k := k) rfl (by omega) hlk ?_)
          refine hCl.out.mono ?_
          rintro e w2 ⟨r, rfl, hor, hB, hr2⟩
          have hfin : Hid (RdOut w er (lvalP x k) (.returned (.tuple #[r, .int .i64 0])) w2) := .inl ⟨he.out, r, rfl, by rw [hlv.out]; exact hor, hB, hr2⟩
          clear hCl him hor hB hr2
          go_wp2
          go_ret2
          exact hfin.out
end Go.Proofs.Ytefbmbfhhhjgkaa
