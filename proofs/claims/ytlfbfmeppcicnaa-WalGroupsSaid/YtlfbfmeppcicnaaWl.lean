/- The log: what it tells; a transaction begins. -/
import Derived.Test.YtlfbfmeppcicnaaWk
namespace Go.Proofs.Ytlfbfmeppcicnaa
open Go.RowKit Go.Maps Go.MapKept Go.ChangeMaps
section
variable {P : Program} {kt mt et : TypeId} {w w' : World} {b N : Nat} {f : Nat → Option Value}
def fI {α : Type} (f : Nat → Option α) (n : Int) : Option α := if 0 ≤ n then f n.toNat else none
theorem IM.run_lookup_okI (h : IM P kt w b N f) (hkt : P.underlying kt = some (.int .i64)) (ht : P.underlying mt = some (.map kt et)) {z : Value} (hz : (zeroValue et).run P w = .ok z w) {n : Int} (h1 : -9223372036854775808 ≤ n) (h2 : n ≤ 9223372036854775807) :
    (Instr.lookup mt (.map (some b)) (.int .i64 n) true).run P w = .ok (.tuple #[(fI f n).getD z, .bool (fI f n).isSome]) w := by
  by_cases h0 : 0 ≤ n
  · obtain ⟨k, rfl⟩ := Int.eq_ofNat_of_zero_le h0
    have := h.run_lookup_ok hkt ht hz (k := k) (by omega)
    unfold fI
    rw [if_pos h0, Int.toNat_natCast]
    exact this
  · obtain ⟨D, ho, hd⟩ := h
    obtain ⟨v, ps, hrun, hv⟩ := ho.look_ok (int_keyed hkt) ht hz (zd := .held z) (zp := []) rfl (keyOf_int_mk hkt (WalkArith.wf_i64 ⟨h1, by omega⟩))
    have hno : Maps.has D (.int .i64 n) = false := by
      cases hh : Maps.has D (.int .i64 n) with
      | false => rfl
      | true =>
        obtain ⟨k, _, e⟩ := hd.has_key hh
        unfold ik at e
        injection e with _ e
        omega
    rw [hrun, hno]
    rw [atKey_of_not_has hno] at hv
    unfold fI
    rw [if_neg h0]
    injection hv with hv
    injection hv with hv
    injection hv with hv
    rw [hv]
    rfl
theorem wpList_im_lookup_okI {ops : Array Oper} {rest : List Oper} {o : Oper} {a : Act} {Q : Exit → Act → World → Prop} (hg : o.guard = none) {m x : Operand} (hop : o.op = Op.lookup mt m x true) (hkt : P.underlying kt = some (.int .i64)) (ht : P.underlying mt = some (.map kt et)) {z : Value} (hz : (zeroValue et).run P w = .ok z w)
    (hown : IM P kt w b N f) (hm : a.eval m = .map (some b)) {n : Int} (hx : a.eval x = .int .i64 n) (h1 : -9223372036854775808 ≤ n) (h2 : n ≤ 9223372036854775807) {v : Value} {ok : Bool} (hv : Hid ((fI f n).getD z = v ∧ (fI f n).isSome = ok)) (hK : wpList P ops Q rest (a.put o.dst (.tuple #[v, .bool ok])) w) : wpList P ops Q (o :: rest) a w := by
  refine wpList_plain hg fun K' hK' => ?_
  have hrun := hown.run_lookup_okI hkt ht hz h1 h2
  rw [hv.out.1, hv.out.2] at hrun
  unfold Oper.wp
  simp [execOp, hop, hm, hx, hrun, Result.andThen]
  exact hK' _ _ hK
theorem IM.run_clear (h : IM P kt w b N f) (ht : P.underlying mt = some (.map kt et)) (ty : TypeId) :
    ∃ w', (Builtin.clear_ #[mt] ty #[.map (some b)]).run P w = .ok (.tuple #[]) w' ∧ IM P kt w' b N (fun _ => none) ∧ w.mapTurned w' b := by
  obtain ⟨D, ⟨es, clock, hb, Ft, hs, hD⟩, hd⟩ := h
  refine ⟨setBlock w b (.map #[] clock), ?_, ⟨.map [], ⟨#[], clock, ?_, ⟨by simp, MapKept.stamped_empty clock, by simp⟩, Nat.zero_le _, rfl⟩, KD.empty N⟩, es, clock, #[], clock, hb, rfl⟩
  · simp [Builtin.clear_, run_underlying ht, MapKept.run_getObj_map hb, MapKept.run_setObj_map _ hb, Result.andThen]
    rfl
  · exact (MapKept.heap_set hb).1
end
variable {F : Nat → Prop}
/-- What a look-up in a map of blocks gives. -/
theorem MBv.look {w : World} {b N : Nat} {mf : Nat → Option Value} {f : Nat → Option (List UInt8)} (h : MBv F w b N mf f) (n : Int) :
    (fI f n = none ∧ (fI mf n).getD (.slice none 0 0) = .slice none 0 0 ∧ (fI mf n).isSome = false) ∨ ∃ bs A c, fI f n = some bs ∧ (fI mf n).getD (.slice none 0 0) = .slice A 512 c ∧ (fI mf n).isSome = true ∧ bs.length = 512 ∧ RdT F 5 w (.slice A 512 c) (bvs bs) := by
  unfold fI
  by_cases h0 : 0 ≤ n
  · rw [if_pos h0, if_pos h0]
    rcases h.at_ n.toNat with ⟨h1, h2⟩ | ⟨bs, v, h1, h2, h3, h4⟩
    · rw [h1, h2]
      exact .inl ⟨rfl, rfl, rfl⟩
    · obtain ⟨A, c, rfl⟩ := h4.shape
      rw [bvs_length, h3] at h2 h4
      rw [h1, h2]
      exact .inr ⟨bs, A, c, rfl, rfl, rfl, h3, h4⟩
  · rw [if_neg h0, if_neg h0]
    exact .inl ⟨rfl, rfl, rfl⟩
set_option maxRecDepth 10000 in
theorem LBlocks_calls (w : World) {gl g : Nat} {x : Lk} {S : Nat → Prop} (h : LO w gl g x S F) (hN : x.d.l.length ≤ 16384) : Calls Try.prog 22 #[.pointer (some ⟨gl, 0, none⟩)] w (Ans w (.int .i64 ((x.d.l.length : Int) - 65))) := by
  obtain ⟨mb, mf, Sd, hL, _⟩ := h
  have c0 : w.cell? ⟨gl, 0, none⟩ = some (.pointer (some ⟨g, 0, none⟩)) := hL.blk.cell 0
  have hB := Blocks_callsO w g x.d Sd hL.dk
  generalize x.d.l.length = N at *
  have hw : IntKind.i64.wrap ((N : Int) - 65) = (N : Int) - 65 := by rw [IntKind.wrap_i64]; omega
  clear hL
  go_enter Try.func22, Try.ntmps22
  go_wp2_with fail
  refine hB.mono ?_
  rintro e w1 ⟨rfl, rfl⟩
  clear hB
  go_wp2
  go_ret
  exact ⟨rfl, rfl⟩
set_option maxRecDepth 10000 in
theorem LRoom_calls (w : World) (v : Value) : Calls Try.prog 27 #[v] w (Ans w (.int .i64 63)) := by
  go_enter Try.func27, Try.ntmps27
  go_wp2
  go_ret
  exact ⟨rfl, rfl⟩
set_option maxRecDepth 10000 in
theorem LPending_calls (w : World) {gl g : Nat} {x : Lk} {S : Nat → Prop} (h : LO w gl g x S F) : Calls Try.prog 29 #[.pointer (some ⟨gl, 0, none⟩)] w (Ans w (.int .i64 x.pn)) := by
  obtain ⟨mb, mf, Sd, hL, _⟩ := h
  have c0 : w.cell? ⟨gl, 0, none⟩ = some (.pointer (some ⟨g, 0, none⟩)) := hL.blk.cell 0
  have c2 : w.cell? ⟨gl, 2, none⟩ = some (.int .i64 x.pn) := hL.blk.cell 2
  clear hL
  go_enter Try.func29, Try.ntmps29
  go_wp2
  go_ret
  exact ⟨rfl, rfl⟩
def lreadE (x : Lk) (n : Int) : Int := if n < 0 ∨ (x.d.l.length : Int) - 65 ≤ n then 1 else if x.d.off = true then 6 else 0
def lvalP (x : Lk) (k : Nat) : List UInt8 := (x.wt k).getD (lastP x.d (65 + k))
/-- What a Read leaves: the error, or a copy. -/
def RdOut (w : World) (er : Int) (bs : List UInt8) (e : Ending) (w' : World) : Prop :=
  (er = 0 ∧ ∃ r, e = .returned (.tuple #[r, .int .i64 0]) ∧ Own8 w' r bs ∧ Below w.heap.size w w' ∧ ∀ k, r.ownBlock = some k → w.heap.size ≤ k) ∨
  (er ≠ 0 ∧ e = .returned (.tuple #[.slice none 0 0, .int .i64 er]) ∧ w = w')
set_option maxRecDepth 10000 in
set_option maxHeartbeats 4000000 in
theorem LRead_calls (w : World) {gl g N M : Nat} {x : Lk} {S : Nat → Prop} (h : LO w gl g x S F) (hf : Fit N M x.d) (hM : M ≤ 900000000) (hN : N ≤ 16384) (n : Int) : Calls Try.prog 23 #[.pointer (some ⟨gl, 0, none⟩), .int .i64 n] w (RdOut w (lreadE x n) (lvalP x n.toNat)) := by
  have hBl := Lib.hid (LBlocks_calls w h (by rw [hf.dl]; exact hN))
  obtain ⟨mb, mf, Sd, hL, _⟩ := h
  have c0 : w.cell? ⟨gl, 0, none⟩ = some (.pointer (some ⟨g, 0, none⟩)) := hL.blk.cell 0
  have c1 : w.cell? ⟨gl, 1, none⟩ = some (.map (some mb)) := hL.blk.cell 1
  have hO := Lib.hid (Off_callsO w g x.d Sd hL.dk)
  have hE : Hid (lreadE x n = if n < 0 ∨ (N : Int) - 65 ≤ n then 1 else if x.d.off = true then 6 else 0) := by
    show _ = _
    unfold lreadE
    rw [hf.dl]
  rw [hf.dl] at hBl
  obtain ⟨er, her⟩ : ∃ r, Hid (lreadE x n = r) := ⟨_, Lib.hid rfl⟩
  rw [her.out] at hE ⊢
  clear her
  by_cases h1 : n < 0
  · have he : Hid (er = 1) := by show _ = _; rw [hE.out, if_pos (.inl h1)]
    have hfin : Hid (RdOut w er (lvalP x n.toNat) (.returned (.tuple #[.slice none 0 0, .int .i64 1])) w) := .inr ⟨by rw [he.out]; decide, by rw [he.out], rfl⟩
    clear hE he hL hf hBl hO
    go_enter Try.func23, Try.ntmps23
    go_wp2
    go_ret2
    exact hfin.out
  · by_cases h2 : (N : Int) - 65 ≤ n
    · have he : Hid (er = 1) := by show _ = _; rw [hE.out, if_pos (.inr h2)]
      have hfin : Hid (RdOut w er (lvalP x n.toNat) (.returned (.tuple #[.slice none 0 0, .int .i64 1])) w) := .inr ⟨by rw [he.out]; decide, by rw [he.out], rfl⟩
      clear hE he hL hf hO
      go_enter Try.func23, Try.ntmps23
      go_wp2_with fail
      refine hBl.out.mono ?_
      rintro e w1 ⟨rfl, rfl⟩
      clear hBl
      go_wp2
      go_ret2
      exact hfin.out
    · have hE2 : Hid (er = if x.d.off = true then 6 else 0) := by show _ = _; rw [hE.out, if_neg (by omega)]
      clear hE
      cases hof : x.d.off with
      | true =>
        have he : Hid (er = 6) := by show _ = _; rw [hE2.out, hof]; rfl
        have hfin : Hid (RdOut w er (lvalP x n.toNat) (.returned (.tuple #[.slice none 0 0, .int .i64 6])) w) := .inr ⟨by rw [he.out]; decide, by rw [he.out], rfl⟩
        rw [hof] at hO
        clear hE2 he hL hf
        go_enter Try.func23, Try.ntmps23
        go_wp2_with fail
        refine hBl.out.mono ?_
        rintro e w1 ⟨rfl, rfl⟩
        clear hBl
        go_wp2_with fail
        refine hO.out.mono ?_
        rintro e w1 ⟨rfl, rfl⟩
        clear hO
        go_wp2
        go_ret2
        exact hfin.out
      | false =>
        have he : Hid (er = 0) := by show _ = _; rw [hE2.out, hof]; rfl
        rw [hof] at hO
        obtain ⟨k, rfl⟩ := Int.eq_ofNat_of_zero_le (show 0 ≤ n by omega)
        have hk : k + 65 < N := by omega
        have him := hL.mp.im
        have hzl := zero_slB
        rw [Int.toNat_natCast]
        rcases hL.mp.at_ k with ⟨hf0, hm0⟩ | ⟨bs, v, hf0, hm0, h5, hr⟩
        · have hRd := Lib.hid (Read_callsO w g x.d Sd hL.dk (65 + (k : Int)) (by rw [hf.dl]; exact hN) (fun vs hvs => by have := waitP_le x.d hvs; have := hf.wt; omega))
          have hask : askP x.d (65 + (k : Int)) = 0 := by
            unfold askP
            rw [if_neg (by simp [hof]), if_neg (by rw [hf.dl]; omega)]
          have hask := Lib.hid hask
          have hlv : Hid (lvalP x k = lastP x.d (65 + k)) := by show _ = _; unfold lvalP; rw [hf0]; rfl
          have hlk : Hid ((mf k).getD (.slice none 0 0) = .slice none 0 0 ∧ (mf k).isSome = false) := by rw [hm0]; exact ⟨rfl, rfl⟩
          have hw65 : IntKind.i64.wrap (65 + (k : Int)) = 65 + (k : Int) := by rw [IntKind.wrap_i64]; omega
          clear hL hf hE2 hf0 hm0 hof
          go_enter Try.func23, Try.ntmps23
          go_wp2_with fail
          refine hBl.out.mono ?_
          rintro e w1 ⟨rfl, rfl⟩
          clear hBl
          go_wp2_with fail
          refine hO.out.mono ?_
          rintro e w1 ⟨rfl, rfl⟩
          clear hO
          go_wp2_with (at_lookup; refine wpList_im_lookup_ok rfl rfl Try.underlying3 Try.underlying86 (hzl w) him rfl (k := k) rfl (by omega) hlk ?_)
          refine hRd.out.mono ?_
          rintro e w2 (⟨_, r, rfl, hor, hB, hr2⟩ | ⟨h, _⟩)
          · have hfin : Hid (RdOut w er (lvalP x k) (.returned (.tuple #[r, .int .i64 0])) w2) := .inl ⟨he.out, r, rfl, by rw [hlv.out]; exact hor, hB, hr2⟩
            clear hRd him hor hB hr2
            go_wp2
            go_ret2
            exact hfin.out
          · exact absurd hask.out h
        · obtain ⟨A, c, rfl⟩ := hr.shape
          have hlv : Hid (lvalP x k = bs) := by show _ = _; unfold lvalP; rw [hf0]; rfl
          rw [bvs_length, h5] at hm0
          have hCl := Lib.hid (Clone8_calls w _ bs hr.1 (by rw [h5]; omega))
          rw [bvs_length, h5] at hCl
          have hlk : Hid ((mf k).getD (.slice none 0 0) = .slice A 512 c ∧ (mf k).isSome = true) := by rw [hm0]; exact ⟨rfl, rfl⟩
          clear hL hf hE2 hf0 hm0 hof hr
          go_enter Try.func23, Try.ntmps23
          go_wp2_with fail
          refine hBl.out.mono ?_
          rintro e w1 ⟨rfl, rfl⟩
          clear hBl
          go_wp2_with fail
          refine hO.out.mono ?_
          rintro e w1 ⟨rfl, rfl⟩
          clear hO
          go_wp2_with (at_lookup; refine wpList_im_lookup_ok rfl rfl Try.underlying3 Try.underlying86 (hzl w) him rfl (k := k) rfl (by omega) hlk ?_)
          refine hCl.out.mono ?_
          rintro e w2 ⟨r, rfl, hor, hB, hr2⟩
          have hfin : Hid (RdOut w er (lvalP x k) (.returned (.tuple #[r, .int .i64 0])) w2) := .inl ⟨he.out, r, rfl, by rw [hlv.out]; exact hor, hB, hr2⟩
          clear hCl him hor hB hr2
          go_wp2
          go_ret2
          exact hfin.out
end Go.Proofs.Ytlfbfmeppcicnaa
