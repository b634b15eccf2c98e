/- The document's log, in memory. The document's log, in memory: Begin, together, Commit, Make. Printed by genwfn.py. The document's log, in memory: Make. Printed by genwfo.py. -/
import Derived.Test.YtlfbfmeppcicnaaWle
namespace Go.Proofs.Ytlfbfmeppcicnaa
open Go.RowKit
/-- The document's log in plain words. -/
structure Rl where
  L : List (List UInt8)
  D : List Bool
  pn : Int
  op : Bool
  nw : List (List UInt8)
  wr : Int
  sy : Int
/-- A row at the front of block b. -/
def RowB (w : World) (t : TypeId) (b : Nat) (us : List Value) : Prop := ∃ sp : List Value, Blk w b t (us ++ sp).toArray
theorem RowB.cell {w : World} {t : TypeId} {b : Nat} {us : List Value} (h : RowB w t b us) {n : Nat} (hn : n < us.length) : w.cell? ⟨b, n, none⟩ = some (us[n]'hn) := by
  obtain ⟨sp, h⟩ := h
  rw [Blk.cell h n]
  simp [List.getElem?_append_left hn, List.getElem?_eq_getElem hn]
theorem RowB.set_ {w : World} {t : TypeId} {b : Nat} {us : List Value} (h : RowB w t b us) {n : Nat} (hn : n < us.length) (u : Value) : RowB (w.setCell ⟨b, n, none⟩ u) t b (us.set n u) := by
  obtain ⟨sp, h⟩ := h
  refine ⟨sp, ?_⟩
  have := Blk.set_ h n u
  rwa [List.setIfInBounds_toArray, List.set_append_left _ _ hn] at this
theorem RowB.chg {w w' : World} {t : TypeId} {b : Nat} {us : List Value} {S : Nat → Prop} (h : RowB w t b us) (hc : Chg S w w') (hs : ¬ S b) : RowB w' t b us := by
  obtain ⟨sp, h⟩ := h
  exact ⟨sp, h.chg hc hs⟩
theorem RowB.lt {w : World} {t : TypeId} {b : Nat} {us : List Value} (h : RowB w t b us) : b < w.heap.size := by
  obtain ⟨sp, h⟩ := h
  exact h.lt
theorem RowB.ne_ {w : World} {t t' : TypeId} {b b' : Nat} {us us' : List Value} (h : RowB w t b us) (h' : RowB w t' b' us') (ht : t ≠ t') : b ≠ b' := by
  obtain ⟨sp, h⟩ := h
  obtain ⟨sp', h'⟩ := h'
  exact h.ne_ h' ht
theorem RowB.neB {w : World} {t t' : TypeId} {b b' : Nat} {us : List Value} {cs : Array Value} (h : RowB w t b us) (h' : Blk w b' t' cs) (ht : t ≠ t') : b ≠ b' := by
  obtain ⟨sp, h⟩ := h
  exact h.ne_ h' ht
/-- What of the open one was written: none ahead of the first Begin. -/
def NwR (w : World) (v : Value) (us : List (List UInt8)) : Prop := (v = .slice none 0 0 ∧ us = []) ∨ ∃ b c, v = .slice (some ⟨b, 0, none⟩) us.length c ∧ us.length = 70 ∧ 70 ≤ c ∧ RowB w 9 b (us.map str)
/-- The log lies at gr, its blocks at bl, which are dirty at bd. -/
structure RG (w : World) (gr bl cl bd cd : Nat) (nv : Value) (r : Rl) : Prop where
  blk : Blk w gr 68 #[.slice (some ⟨bl, 0, none⟩) 70 cl, .slice (some ⟨bd, 0, none⟩) 70 cd, .int .i64 r.pn, .bool r.op, nv, .int .i64 r.wr, .int .i64 r.sy]
  l : RowB w 9 bl (r.L.map str)
  d : RowB w 4 bd (r.D.map Value.bool)
  ll : r.L.length = 70 ∧ 70 ≤ cl
  dl : r.D.length = 70 ∧ 70 ≤ cd
  n : NwR w nv r.nw
  ap : nv.ownBlock ≠ some bl
/-- The blocks that its calls may turn. -/
def rgS (gr bl bd : Nat) (nv : Value) (k : Nat) : Prop := k = gr ∨ k = bl ∨ k = bd ∨ nv.ownBlock = some k
theorem RG.chg {w w' : World} {gr bl cl bd cd : Nat} {nv : Value} {r : Rl} {S : Nat → Prop} (h : RG w gr bl cl bd cd nv r) (hc : Chg S w w') (hs : ∀ k, rgS gr bl bd nv k → ¬ S k) : RG w' gr bl cl bd cd nv r := by
  refine ⟨h.blk.chg hc (hs _ (.inl rfl)), h.l.chg hc (hs _ (.inr (.inl rfl))), h.d.chg hc (hs _ (.inr (.inr (.inl rfl)))), h.ll, h.dl, ?_, h.ap⟩
  rcases h.n with h1 | ⟨b, c, rfl, h2, h3, h4⟩
  · exact .inl h1
  · exact .inr ⟨b, c, rfl, h2, h3, h4.chg hc (hs _ (.inr (.inr (.inr rfl))))⟩
/-- A cell of the log's own is set. -/
theorem RG.own {w : World} {gr bl cl bd cd : Nat} {nv : Value} {r r' : Rl} (h : RG w gr bl cl bd cd nv r) {i : Nat} {u : Value} (hb : Blk (w.setCell ⟨gr, i, none⟩ u) gr 68 #[.slice (some ⟨bl, 0, none⟩) 70 cl, .slice (some ⟨bd, 0, none⟩) 70 cd, .int .i64 r'.pn, .bool r'.op, nv, .int .i64 r'.wr, .int .i64 r'.sy]) (hL : r'.L = r.L) (hD : r'.D = r.D) (hn : r'.nw = r.nw) : RG (w.setCell ⟨gr, i, none⟩ u) gr bl cl bd cd nv r' := by
  have hc : Chg (fun k => k = gr) w (w.setCell ⟨gr, i, none⟩ u) := chg_set ⟨gr, i, none⟩ u
  refine ⟨hb, ?_, ?_, by rw [hL]; exact h.ll, by rw [hD]; exact h.dl, ?_, h.ap⟩
  · rw [hL]; exact h.l.chg hc (h.l.neB h.blk (by decide))
  · rw [hD]; exact h.d.chg hc (h.d.neB h.blk (by decide))
  · rw [hn]
    rcases h.n with h1 | ⟨b, c, rfl, h2, h3, h4⟩
    · exact .inl h1
    · exact .inr ⟨b, c, rfl, h2, h3, h4.chg hc (h4.neB h.blk (by decide))⟩
set_option maxRecDepth 10000 in
theorem RAbort_calls (w : World) {gr bl cl bd cd : Nat} {nv : Value} {r : Rl} (h : RG w gr bl cl bd cd nv r) : Calls Try.prog 68 #[.pointer (some ⟨gr, 0, none⟩)] w fun e w' => e = .returned (.tuple #[]) ∧ RG w' gr bl cl bd cd nv { r with op := false } ∧ Chg (fun k => k = gr) w w' := by
  have c0 : w.cell? ⟨gr, 0, none⟩ = some (.slice (some ⟨bl, 0, none⟩) 70 cl) := h.blk.cell 0
  have c3 : w.cell? ⟨gr, 3, none⟩ = some (.bool r.op) := h.blk.cell 3
  have f3 := h.blk.frozen 3
  have hfin := Lib.hid (h.own (r' := { r with op := false }) (i := 3) (u := .bool false) (h.blk.set_ 3 _) rfl rfl rfl)
  clear h
  go_enter Try.func68, Try.ntmps68
  go_wp2
  go_end0
  exact ⟨rfl, hfin.out, chg_set ⟨gr, 3, none⟩ _⟩
set_option maxRecDepth 10000 in
theorem RIs_calls (w : World) {gr bl cl bd cd : Nat} {nv : Value} {r : Rl} (h : RG w gr bl cl bd cd nv r) (n : Int) : Calls Try.prog 70 #[.pointer (some ⟨gr, 0, none⟩), .int .i64 n] w (Ans w (.bool (decide (0 ≤ n ∧ n < 70)))) := by
  have c0 : w.cell? ⟨gr, 0, none⟩ = some (.slice (some ⟨bl, 0, none⟩) 70 cl) := h.blk.cell 0
  clear h
  by_cases h0 : 0 ≤ n
  · by_cases h7 : n < 70
    · rw [decide_eq_true (And.intro h0 h7)]
      go_enter Try.func70, Try.ntmps70
      go_wp2
      go_ret
      exact ⟨by simp [h7], rfl⟩
    · rw [decide_eq_false (fun h => h7 h.2)]
      go_enter Try.func70, Try.ntmps70
      go_wp2
      go_ret
      exact ⟨by simp [h7], rfl⟩
  · rw [decide_eq_false (fun h => h0 h.1)]
    go_enter Try.func70, Try.ntmps70
    go_wp2
    go_ret
    exact ⟨by simp [h0], rfl⟩
theorem RG.setD {w : World} {gr bl cl bd cd : Nat} {nv : Value} {r : Rl} (h : RG w gr bl cl bd cd nv r) {n : Nat} (hn : n < 70) (b : Bool) : RG (w.setCell ⟨bd, n, none⟩ (.bool b)) gr bl cl bd cd nv { r with D := r.D.set n b } := by
  have hc : Chg (fun k => k = bd) w (w.setCell ⟨bd, n, none⟩ (.bool b)) := chg_set ⟨bd, n, none⟩ _
  refine ⟨h.blk.chg hc (fun e => (h.d.neB h.blk (by decide)) e.symm), h.l.chg hc (fun e => (h.d.ne_ h.l (by decide)) e.symm), ?_, h.ll, ⟨by show (r.D.set n b).length = 70; rw [List.length_set]; exact h.dl.1, h.dl.2⟩, ?_, h.ap⟩
  · show RowB _ _ _ ((r.D.set n b).map Value.bool)
    rw [List.map_set]
    exact h.d.set_ (by rw [List.length_map, h.dl.1]; exact hn) _
  · rcases h.n with h1 | ⟨b2, c, rfl, h2, h3, h4⟩
    · exact .inl h1
    · exact .inr ⟨b2, c, rfl, h2, h3, h4.chg hc (fun e => (h.d.ne_ h4 (by decide)) e.symm)⟩
set_option maxRecDepth 100000 in
set_option maxHeartbeats 4000000 in
theorem RSync_calls (w : World) {gr bl cl bd cd : Nat} {nv : Value} {r : Rl} (h : RG w gr bl cl bd cd nv r) (hs : 0 ≤ r.sy ∧ r.sy ≤ 1000000000) : Calls Try.prog 69 #[.pointer (some ⟨gr, 0, none⟩)] w fun e w' => e = .returned (.tuple #[]) ∧ RG w' gr bl cl bd cd nv { r with D := List.replicate 70 false, pn := 0, sy := r.sy + 1 } ∧ Chg (fun k => k = gr ∨ k = bd) w w' := by
  have h := Lib.hid h
  have hs := Lib.hid hs
  go_enter Try.func69, Try.ntmps69
  go_wp2
  go_loopw [2] (fun iv wr => ∃ (i : Nat) (D : List Bool), i ≤ 70 ∧ iv = .int .i64 (i : Int) ∧ Hid (RG wr gr bl cl bd cd nv { r with D := D }) ∧ Hid (Chg (fun k => k = gr ∨ k = bd) w wr) ∧ Hid (∀ m, m < i → D[m]? = some false)) (fun iv _ => 70 - (RowKit.intOf iv).toNat)
  case atStart => exact ⟨0, r.D, by omega, rfl, h, Chg.refl _ _, fun m hm => by omega⟩
  case round =>
    obtain ⟨i, D, hi, rfl, hR, hC, hD⟩ := hrel
    have c0 : wr.cell? ⟨gr, 0, none⟩ = some (.slice (some ⟨bl, 0, none⟩) 70 cl) := hR.out.blk.cell 0
    have c1 : wr.cell? ⟨gr, 1, none⟩ = some (.slice (some ⟨bd, 0, none⟩) 70 cd) := hR.out.blk.cell 1
    by_cases hi7 : i < 70
    · have hi7' : (i : Int) < 70 := by omega
      have hDl : D.length = 70 := hR.out.dl.1
      obtain ⟨u1, c2⟩ : ∃ u, wr.cell? ⟨bd, i, none⟩ = some u := ⟨_, hR.out.d.cell (n := i) (by rw [List.length_map]; show i < D.length; omega)⟩
      obtain ⟨sp, hbd⟩ := hR.out.d
      have f2 := Blk.frozen hbd i
      have hR2 := Lib.hid (hR.out.setD hi7 false)
      have hC2 := Lib.hid (hC.out.setCell (p := ⟨bd, i, none⟩) (fun _ => .inr rfl) (.bool false))
      have hD2 : Hid (∀ m, m < i + 1 → (D.set i false)[m]? = some false) := fun m hm => by
        by_cases e : m = i
        · subst e; rw [List.getElem?_set_self (by omega)]
        · rw [List.getElem?_set_ne (fun h => e h.symm)]; exact hD.out m (by omega)
      clear hbd hDl hR hC hD
      go_wp2
      go_roundw
      case rel => exact ⟨i + 1, _, by omega, by go_num, hR2, hC2, hD2⟩
      case measure => simp [RowKit.intOf]; omega
    · have hi70 : i = 70 := by omega
      have hi70' : (i : Int) = 70 := by omega
      have hDe : D = List.replicate 70 false := by
        apply List.ext_getElem?
        intro m
        rcases Nat.lt_or_ge m 70 with h1 | h1
        · rw [hD.out m (by omega), List.getElem?_replicate, if_pos h1]
        · rw [List.getElem?_eq_none (by rw [show D.length = 70 from hR.out.dl.1]; exact h1), List.getElem?_eq_none (by simpa using h1)]
      subst hDe
      have c2 : wr.cell? ⟨gr, 2, none⟩ = some (.int .i64 r.pn) := hR.out.blk.cell 2
      have c6 : wr.cell? ⟨gr, 6, none⟩ = some (.int .i64 r.sy) := hR.out.blk.cell 6
      have f2 := hR.out.blk.frozen 2
      have f6 := hR.out.blk.frozen 6
      have hA := hR.out.own (r' := { r with D := List.replicate 70 false, pn := 0 }) (i := 2) (u := .int .i64 0) (hR.out.blk.set_ 2 _) rfl rfl rfl
      have hB := Lib.hid (hA.own (r' := { r with D := List.replicate 70 false, pn := 0, sy := r.sy + 1 }) (i := 6) (u := .int .i64 (r.sy + 1)) (hA.blk.set_ 6 _) rfl rfl rfl)
      have hC2 := Lib.hid ((hC.out.setCell (p := ⟨gr, 2, none⟩) (fun _ => .inl rfl) (.int .i64 0)).setCell (p := ⟨gr, 6, none⟩) (fun _ => .inl rfl) (.int .i64 (r.sy + 1)))
      have hs1 := hs.out
      clear hA hR hC hD
      go_wp2
      go_end0
      exact ⟨rfl, hB.out, hC2.out⟩
/-- What the open one reads. -/
def rreadP (r : Rl) (n : Int) : Int × List UInt8 := if 0 ≤ n ∧ n < 70 then (0, if r.nw.getD n.toNat [] = [] then r.L.getD n.toNat [] else r.nw.getD n.toNat []) else (1, [])
set_option maxRecDepth 100000 in
set_option maxHeartbeats 4000000 in
theorem RRead_calls (w : World) {gr bl cl bd cd : Nat} {nv : Value} {r : Rl} (h : RG w gr bl cl bd cd nv r) (hn7 : r.nw.length = 70) (n : Int) : Calls Try.prog 71 #[.pointer (some ⟨gr, 0, none⟩), .int .i64 n] w (Ans w (.tuple #[str (rreadP r n).2, .int .i64 (rreadP r n).1])) := by
  have hIs := RIs_calls w h n
  have c0 : w.cell? ⟨gr, 0, none⟩ = some (.slice (some ⟨bl, 0, none⟩) 70 cl) := h.blk.cell 0
  have c4 : w.cell? ⟨gr, 4, none⟩ = some nv := h.blk.cell 4
  rcases h.n with ⟨_, e⟩ | ⟨b, c, rfl, _, _, hrow⟩
  · rw [e] at hn7; cases hn7
  rw [hn7] at c4
  by_cases hin : 0 ≤ n ∧ n < 70
  · obtain ⟨k, rfl⟩ := Int.eq_ofNat_of_zero_le hin.1
    have hk : k < 70 := by omega
    obtain ⟨X, hX⟩ : ∃ X, Hid (r.nw.getD k [] = X) := ⟨_, Lib.hid rfl⟩
    obtain ⟨Y, hY⟩ : ∃ X, Hid (r.L.getD k [] = X) := ⟨_, Lib.hid rfl⟩
    have c5 : w.cell? ⟨b, k, none⟩ = some (str X) := by
      have hk2 : k < r.nw.length := by omega
      rw [hrow.cell (n := k) (by rw [List.length_map]; exact hk2), ← hX.out]
      simp [List.getD_eq_getElem?_getD, List.getElem?_eq_getElem hk2]
    have c6 : w.cell? ⟨bl, k, none⟩ = some (str Y) := by
      have hk2 : k < r.L.length := by rw [h.ll.1]; exact hk
      rw [h.l.cell (n := k) (by rw [List.length_map]; exact hk2), ← hY.out]
      simp [List.getD_eq_getElem?_getD, List.getElem?_eq_getElem hk2]
    have hr : rreadP r (k : Int) = (0, if X = [] then Y else X) := by
      unfold rreadP
      rw [if_pos hin, Int.toNat_natCast, hX.out, hY.out]
    rw [hr, decide_eq_true hin] at *
    have hIs := Lib.hid hIs
    have hne : ((⟨X.toArray⟩ : ByteArray).toList == (⟨#[]⟩ : ByteArray).toList) = decide (X = []) := str_beq X []
    unfold str at c5 c6
    unfold str
    have hk' : (k : Int) < 70 := by omega
    clear h hrow hr hin
    by_cases hx0 : X = []
    · subst hx0
      rw [if_pos rfl]
      go_enter Try.func71, Try.ntmps71
      go_wp2_with fail
      refine hIs.out.mono ?_
      rintro e w' ⟨rfl, rfl⟩
      go_wp2
      go_ret2
      exact ⟨rfl, rfl⟩
    · rw [if_neg hx0]
      rw [decide_eq_false hx0] at hne
      have hie : X.isEmpty = false := by cases X with
        | nil => exact absurd rfl hx0
        | cons a b => rfl
      replace hx0 := Lib.hid hx0
      go_enter Try.func71, Try.ntmps71
      go_wp2_with fail
      refine hIs.out.mono ?_
      rintro e w' ⟨rfl, rfl⟩
      go_wp2
      go_ret2
      exact ⟨rfl, rfl⟩
  · have hr : rreadP r n = (1, []) := by unfold rreadP; rw [if_neg hin]
    rw [hr, decide_eq_false hin] at *
    have hIs := Lib.hid hIs
    clear h hrow hr
    go_enter Try.func71, Try.ntmps71
    go_wp2_with fail
    refine hIs.out.mono ?_
    rintro e w' ⟨rfl, rfl⟩
    go_wp2
    go_ret2
    exact ⟨rfl, rfl⟩
theorem RG.newAt {w : World} {gr bl cl bd cd : Nat} {nv : Value} {r : Rl} (h : RG w gr bl cl bd cd nv r) (h7 : r.nw.length = 70) : ∃ b c, nv = .slice (some ⟨b, 0, none⟩) 70 c ∧ RowB w 9 b (r.nw.map str) ∧ b ≠ bl := by
  rcases h.n with ⟨_, e⟩ | ⟨b, c, rfl, _, _, hrow⟩
  · rw [e] at h7; cases h7
  · rw [h7]
    exact ⟨b, c, rfl, hrow, fun e => h.ap (by rw [e]; rfl)⟩
theorem RG.setN {w : World} {gr bl cl bd cd b c : Nat} {r : Rl} (h : RG w gr bl cl bd cd (.slice (some ⟨b, 0, none⟩) 70 c) r) (h7 : r.nw.length = 70) {n : Nat} (hn : n < 70) (bs : List UInt8) : RG (w.setCell ⟨b, n, none⟩ (str bs)) gr bl cl bd cd (.slice (some ⟨b, 0, none⟩) 70 c) { r with nw := r.nw.set n bs } := by
  have hc : Chg (fun k => k = b) w (w.setCell ⟨b, n, none⟩ (str bs)) := chg_set ⟨b, n, none⟩ _
  rcases h.n with ⟨e, _⟩ | ⟨b', c', e, h2, h3, hrow⟩
  · cases e
  · have e2 := congrArg Value.ownBlock e
    have e3 : b = b' := Option.some.inj e2
    subst e3
    have hnl : b ≠ bl := fun e => h.ap (by rw [e]; rfl)
    refine ⟨h.blk.chg hc (fun e => (hrow.neB h.blk (by decide)) e.symm), h.l.chg hc (fun e => hnl e.symm), h.d.chg hc (h.d.ne_ hrow (by decide)), h.ll, h.dl, .inr ⟨b, c', ?_, ?_, h3, ?_⟩, h.ap⟩
    · show _ = Value.slice _ (r.nw.set n bs).length _
      rw [List.length_set]
      exact e
    · show (r.nw.set n bs).length = 70
      rw [List.length_set]
      exact h7
    · show RowB _ _ _ ((r.nw.set n bs).map str)
      rw [List.map_set]
      exact hrow.set_ (by rw [List.length_map, h7]; exact hn) _
def rwriteP (r : Rl) (n : Int) (bs : List UInt8) : Int × Rl :=
  if ¬ (0 ≤ n ∧ n < 70) ∨ bs.length ≠ 512 then (1, r) else if r.op = false then (15, r) else
    if r.nw.getD n.toNat [] = [] then (if r.wr = 63 then (7, r) else (0, { r with nw := r.nw.set n.toNat bs, wr := r.wr + 1 })) else (0, { r with nw := r.nw.set n.toNat bs })
set_option maxRecDepth 100000 in
set_option maxHeartbeats 4000000 in
theorem RWrite_calls (w : World) {gr bl cl bd cd : Nat} {nv : Value} {r : Rl} (h : RG w gr bl cl bd cd nv r) (h7 : r.op = true → r.nw.length = 70) (hw : r.op = true → 0 ≤ r.wr ∧ r.wr ≤ 1000) (n : Int) (bs : List UInt8) (hl : bs.length ≤ 1000000000) :
    Calls Try.prog 66 #[.pointer (some ⟨gr, 0, none⟩), .int .i64 n, str bs] w fun e w' => e = .returned (.int .i64 (rwriteP r n bs).1) ∧ RG w' gr bl cl bd cd nv (rwriteP r n bs).2 ∧ Chg (rgS gr bl bd nv) w w' := by
  have hIs := RIs_calls w h n
  have c3 : w.cell? ⟨gr, 3, none⟩ = some (.bool r.op) := h.blk.cell 3
  have c4 : w.cell? ⟨gr, 4, none⟩ = some nv := h.blk.cell 4
  have c5 : w.cell? ⟨gr, 5, none⟩ = some (.int .i64 r.wr) := h.blk.cell 5
  have c0 : w.cell? ⟨gr, 0, none⟩ = some (.slice (some ⟨bl, 0, none⟩) 70 cl) := h.blk.cell 0
  have f5 := h.blk.frozen 5
  have hlen : (⟨bs.toArray⟩ : ByteArray).size = bs.length := by simp [ByteArray.size]
  have hh := Lib.hid h
  obtain ⟨q, hq⟩ : ∃ q, Hid (rwriteP r n bs = q) := ⟨_, Lib.hid rfl⟩
  rw [hq.out]
  unfold str
  by_cases hin : 0 ≤ n ∧ n < 70
  · rw [decide_eq_true hin] at hIs
    have hIs := Lib.hid hIs
    by_cases h5 : bs.length = 512
    · have h5' : ((bs.length : Int) != 512) = false := by rw [h5]; rfl
      rw [h5] at hlen
      cases hop : r.op with
      | false =>
        have e : q = (15, r) := by rw [← hq.out]; unfold rwriteP; rw [if_neg (by simp [hin, h5]), if_pos hop]
        subst e
        rw [hop] at c3
        have hfin : Hid (RG w gr bl cl bd cd nv r) := hh
        clear h hin hq
        go_enter Try.func66, Try.ntmps66
        go_wp2_with fail
        refine hIs.out.mono ?_
        rintro e w' ⟨rfl, rfl⟩
        go_wp2
        go_ret
        exact ⟨rfl, hfin.out, Chg.refl _ _⟩
      | true =>
        obtain ⟨k, rfl⟩ := Int.eq_ofNat_of_zero_le hin.1
        have hk : k < 70 := by omega
        have hk' : (k : Int) < 70 := by omega
        have h70 := h7 hop
        obtain ⟨b, c, rfl, hrow, hbl⟩ := h.newAt h70
        obtain ⟨X, hX⟩ : ∃ X, Hid (r.nw.getD k [] = X) := ⟨_, Lib.hid rfl⟩
        have hk2 : k < r.nw.length := by omega
        have c6 : w.cell? ⟨b, k, none⟩ = some (str X) := by
          rw [hrow.cell (n := k) (by rw [List.length_map]; exact hk2), ← hX.out]
          simp [List.getD_eq_getElem?_getD, List.getElem?_eq_getElem hk2]
        obtain ⟨sp, hbk⟩ := hrow
        have f6 := Blk.frozen hbk k
        have hne : ((⟨X.toArray⟩ : ByteArray).toList == (⟨#[]⟩ : ByteArray).toList) = decide (X = []) := str_beq X []
        unfold str at c6
        have hwr := hw hop
        rw [hop] at c3
        have e0 : q = (if X = [] then (if r.wr = 63 then (7, r) else (0, { r with nw := r.nw.set k bs, wr := r.wr + 1 })) else (0, { r with nw := r.nw.set k bs })) := by
          rw [← hq.out]; unfold rwriteP; rw [if_neg (by simp [h5]; omega), if_neg (by rw [hop]; decide), Int.toNat_natCast, hX.out]
        by_cases hx0 : X = []
        · subst hx0
          rw [if_pos rfl] at e0
          by_cases h63 : r.wr = 63
          · rw [if_pos h63] at e0
            subst e0
            rw [h63] at c5
            clear h hin hq h7 h70 hbk hX hwr hw hk2
            go_enter Try.func66, Try.ntmps66
            go_wp2_with fail
            refine hIs.out.mono ?_
            rintro e w' ⟨rfl, rfl⟩
            go_wp2
            go_ret
            exact ⟨rfl, hh.out, Chg.refl _ _⟩
          · rw [if_neg h63] at e0
            subst e0
            have h63' : (r.wr == 63) = false := beq_eq_false_iff_ne.2 h63
            have hA := hh.out.own (r' := { r with wr := r.wr + 1 }) (i := 5) (u := .int .i64 (r.wr + 1)) (hh.out.blk.set_ 5 _) rfl rfl rfl
            have hB := Lib.hid (hA.setN (by exact h70) hk bs)
            have hC := Lib.hid (((Chg.refl (rgS gr bl bd (.slice (some ⟨b, 0, none⟩) 70 c)) w).setCell (p := ⟨gr, 5, none⟩) (fun _ => .inl rfl) (.int .i64 (r.wr + 1))).setCell (p := ⟨b, k, none⟩) (fun _ => .inr (.inr (.inr rfl))) (str bs))
            unfold str at hB hC
            have hgb : gr ≠ b := fun e => (hbk.ne_ hh.out.blk (by decide)) e.symm
            clear h hin hq h7 h70 hbk hX hw hk2 hA h63
            go_enter Try.func66, Try.ntmps66
            go_wp2_with fail
            refine hIs.out.mono ?_
            rintro e w' ⟨rfl, rfl⟩
            go_wp2
            go_ret
            exact ⟨rfl, hB.out, hC.out⟩
        · rw [if_neg hx0] at e0
          subst e0
          rw [decide_eq_false hx0] at hne
          have hie : X.isEmpty = false := by cases X with
            | nil => exact absurd rfl hx0
            | cons a b => rfl
          replace hx0 := Lib.hid hx0
          have hB := Lib.hid (hh.out.setN (by exact h70) hk bs)
          have hC := Lib.hid ((Chg.refl (rgS gr bl bd (.slice (some ⟨b, 0, none⟩) 70 c)) w).setCell (p := ⟨b, k, none⟩) (fun _ => .inr (.inr (.inr rfl))) (str bs))
          unfold str at hB hC
          clear h hin hq h7 h70 hbk hX hw hk2 hwr
          go_enter Try.func66, Try.ntmps66
          go_wp2_with fail
          refine hIs.out.mono ?_
          rintro e w' ⟨rfl, rfl⟩
          go_wp2
          go_ret
          exact ⟨rfl, hB.out, hC.out⟩
    · have h5' : ((bs.length : Int) != 512) = true := by simp; omega
      have e : q = (1, r) := by rw [← hq.out]; unfold rwriteP; rw [if_pos (.inr h5)]
      subst e
      clear h hin hq
      go_enter Try.func66, Try.ntmps66
      go_wp2_with fail
      refine hIs.out.mono ?_
      rintro e w' ⟨rfl, rfl⟩
      go_wp2
      go_ret
      exact ⟨rfl, hh.out, Chg.refl _ _⟩
  · rw [decide_eq_false hin] at hIs
    have hIs := Lib.hid hIs
    have e : q = (1, r) := by rw [← hq.out]; unfold rwriteP; rw [if_pos (.inl hin)]
    subst e
    clear h hq
    go_enter Try.func66, Try.ntmps66
    go_wp2_with fail
    refine hIs.out.mono ?_
    rintro e w' ⟨rfl, rfl⟩
    go_wp2
    go_ret
    exact ⟨rfl, hh.out, Chg.refl _ _⟩
set_option maxRecDepth 100000 in
set_option maxHeartbeats 4000000 in
/-- Begin, while one is open. -/
theorem RBegin_open (w : World) {gr bl cl bd cd : Nat} {nv : Value} {r : Rl} (h : RG w gr bl cl bd cd nv r) (ho : r.op = true) : Calls Try.prog 65 #[.pointer (some ⟨gr, 0, none⟩)] w (Ans w (.int .i64 15)) := by
  have c0 : w.cell? ⟨gr, 0, none⟩ = some (.slice (some ⟨bl, 0, none⟩) 70 cl) := h.blk.cell 0
  have c3 : w.cell? ⟨gr, 3, none⟩ = some (.bool r.op) := h.blk.cell 3
  rw [ho] at c3
  clear h
  go_enter Try.func65, Try.ntmps65
  go_wp2
  go_ret
  exact ⟨rfl, rfl⟩
end Go.Proofs.Ytlfbfmeppcicnaa
namespace Go.Proofs.Ytlfbfmeppcicnaa
open Go.RowKit
theorem RG.begun {w : World} {gr bl cl bd cd : Nat} {nv : Value} {r : Rl} (h : RG w gr bl cl bd cd nv r) (us : List (List UInt8)) (hl : us.length = 70) : RG ((((w.setCell ⟨gr, 3, none⟩ (.bool true)).setCell ⟨gr, 4, none⟩ (.slice (some ⟨w.heap.size, 0, none⟩) 70 70)).setCell ⟨gr, 5, none⟩ (.int .i64 0)).alloc (.cells (us.map str).toArray 9)) gr bl cl bd cd (.slice (some ⟨w.heap.size, 0, none⟩) 70 70) { r with op := true, nw := us, wr := 0 } := by
  have hb := (((h.blk.set_ 3 (.bool true)).set_ 4 (.slice (some ⟨w.heap.size, 0, none⟩) 70 70)).set_ 5 (.int .i64 0))
  obtain ⟨w3, hw3⟩ : ∃ w3, w3 = (((w.setCell ⟨gr, 3, none⟩ (.bool true)).setCell ⟨gr, 4, none⟩ (.slice (some ⟨w.heap.size, 0, none⟩) 70 70)).setCell ⟨gr, 5, none⟩ (.int .i64 0)) := ⟨_, rfl⟩
  have hc : Chg (fun k => k = gr) w w3 := by
    rw [hw3]
    exact ((chg_set (w := w) ⟨gr, 3, none⟩ _).setCell (p := ⟨gr, 4, none⟩) (fun _ => rfl) _).setCell (p := ⟨gr, 5, none⟩) (fun _ => rfl) _
  have hs : w3.heap.size = w.heap.size := by rw [hw3]; simp only [World.size_setCell]
  rw [← hw3] at hb ⊢
  have hc4 := hc.alloc (.cells (us.map str).toArray 9)
  refine ⟨hb.alloc _, h.l.chg hc4 (h.l.neB h.blk (by decide)), h.d.chg hc4 (h.d.neB h.blk (by decide)), h.ll, h.dl, .inr ⟨w.heap.size, 70, ?_, hl, Nat.le_refl _, [], ?_⟩, ?_⟩
  · show _ = Value.slice _ us.length _
    rw [hl]
  · have := Blk.new w3 9 (us.map str).toArray
    rw [hs] at this
    rw [List.append_nil]
    exact this
  · intro e
    have e2 : w.heap.size = bl := Option.some.inj e
    have := h.l.lt
    omega
set_option maxRecDepth 100000 in
set_option maxHeartbeats 4000000 in
theorem RBegin_new (w : World) {gr bl cl bd cd : Nat} {nv : Value} {r : Rl} (h : RG w gr bl cl bd cd nv r) (ho : r.op = false) : Calls Try.prog 65 #[.pointer (some ⟨gr, 0, none⟩)] w fun e w' => e = .returned (.int .i64 0) ∧ RG w' gr bl cl bd cd (.slice (some ⟨w.heap.size, 0, none⟩) 70 70) { r with op := true, nw := List.replicate 70 [], wr := 0 } ∧ Chg (fun k => k = gr) w w' ∧ w.heap.size < w'.heap.size := by
  obtain ⟨j0, kj, kz0, kz1, kz2⟩ := info_parts Try.info_str
  have hmk : ∀ w : World, (Instr.makeSlice 42 (.int .i64 70) (.int .i64 70)).run Try.prog w = .ok (.slice (some ⟨w.heap.size, 0, none⟩) 70 70) (w.alloc (.cells (List.replicate 70 (Value.string ⟨#[]⟩)).toArray 9)) := run_mkr (P := Try.prog) 42 9 j0 (.string ⟨#[]⟩) Try.underlying42 kj kz0 rfl kz1 70 (by rw [kz2]; omega) (by omega)
  obtain ⟨us, hus⟩ : ∃ us : List (List UInt8), Hid (us = List.replicate 70 []) := ⟨_, Lib.hid rfl⟩
  have hul : us.length = 70 := by rw [hus.out, List.length_replicate]
  have hbg := Lib.hid (h.begun us hul)
  rw [← hus.out]
  have e0 : List.replicate 70 (Value.string ⟨#[]⟩) = us.map str := by rw [hus.out, List.map_replicate]; rfl
  rw [e0] at hmk
  clear e0 hul hus
  obtain ⟨zs, hzs⟩ : ∃ zs, Hid (zs = (us.map str).toArray) := ⟨_, Lib.hid rfl⟩
  have hcg : Hid (Chg (fun k => k = gr) w ((((w.setCell ⟨gr, 3, none⟩ (.bool true)).setCell ⟨gr, 4, none⟩ (.slice (some ⟨w.heap.size, 0, none⟩) 70 70)).setCell ⟨gr, 5, none⟩ (.int .i64 0)).alloc (.cells zs 9))) := Lib.hid ((((chg_set (w := w) ⟨gr, 3, none⟩ _).setCell (p := ⟨gr, 4, none⟩) (fun _ => rfl) _).setCell (p := ⟨gr, 5, none⟩) (fun _ => rfl) _).alloc _)
  rw [← hzs.out] at hmk hbg
  clear hzs
  have c0 : w.cell? ⟨gr, 0, none⟩ = some (.slice (some ⟨bl, 0, none⟩) 70 cl) := h.blk.cell 0
  have c3 : w.cell? ⟨gr, 3, none⟩ = some (.bool r.op) := h.blk.cell 3
  have c4 : w.cell? ⟨gr, 4, none⟩ = some nv := h.blk.cell 4
  have c5 : w.cell? ⟨gr, 5, none⟩ = some (.int .i64 r.wr) := h.blk.cell 5
  have f3 := h.blk.frozen 3
  have f4 := h.blk.frozen 4
  have f5 := h.blk.frozen 5
  have hlt := h.blk.lt
  rw [ho] at c3
  clear h
  go_enter Try.func65, Try.ntmps65
  go_wp2
  go_ret
  refine ⟨rfl, ?_, ?_, ?_⟩
  · exact hbg.out
  · exact hcg.out
  · rw [World.size_alloc]
    simp only [World.size_setCell]
    omega
/-- Is block n dirty, or written by the open one? -/
def rtogB (r : Rl) (n : Nat) : Bool := r.D.getD n false || !(r.nw.getD n []).isEmpty
def rtog (r : Rl) (k : Nat) : Nat := ((List.range k).filter (rtogB r)).length
theorem rtog_succ (r : Rl) (k : Nat) : rtog r (k + 1) = rtog r k + (if rtogB r k = true then 1 else 0) := by
  unfold rtog
  rw [List.range_succ, List.filter_append, List.length_append]
  congr 1
  simp only [List.filter_cons, List.filter_nil]
  split <;> rfl
theorem rtog_le (r : Rl) (k : Nat) : rtog r k ≤ k := by
  unfold rtog
  have := List.length_filter_le (rtogB r) (List.range k)
  rwa [List.length_range] at this
theorem RG.atD {w : World} {gr bl cl bd cd : Nat} {nv : Value} {r : Rl} (h : RG w gr bl cl bd cd nv r) {k : Nat} (hk : k < 70) : w.cell? ⟨bd, k, none⟩ = some (.bool (r.D.getD k false)) := by
  have hk2 : k < r.D.length := by rw [h.dl.1]; exact hk
  rw [h.d.cell (n := k) (by rw [List.length_map]; exact hk2)]
  simp [List.getD_eq_getElem?_getD, List.getElem?_eq_getElem hk2]
theorem RG.atL {w : World} {gr bl cl bd cd : Nat} {nv : Value} {r : Rl} (h : RG w gr bl cl bd cd nv r) {k : Nat} (hk : k < 70) : w.cell? ⟨bl, k, none⟩ = some (str (r.L.getD k [])) := by
  have hk2 : k < r.L.length := by rw [h.ll.1]; exact hk
  rw [h.l.cell (n := k) (by rw [List.length_map]; exact hk2)]
  simp [List.getD_eq_getElem?_getD, List.getElem?_eq_getElem hk2]
theorem RowB.atS {w : World} {b : Nat} {us : List (List UInt8)} (h : RowB w 9 b (us.map str)) {k : Nat} (hk : k < us.length) : w.cell? ⟨b, k, none⟩ = some (str (us.getD k [])) := by
  rw [h.cell (n := k) (by rw [List.length_map]; exact hk)]
  simp [List.getD_eq_getElem?_getD, List.getElem?_eq_getElem hk]
theorem ne_empty_of {X : List UInt8} (hx0 : X ≠ []) : X.isEmpty = false := by cases X with
  | nil => exact absurd rfl hx0
  | cons a b => rfl
set_option maxRecDepth 100000 in
set_option maxHeartbeats 4000000 in
theorem Rtog_calls (w : World) {gr bl cl bd cd : Nat} {nv : Value} {r : Rl} (h : RG w gr bl cl bd cd nv r) (h7 : r.nw.length = 70) : Calls Try.prog 90 #[.pointer (some ⟨gr, 0, none⟩)] w (Ans w (.int .i64 (rtog r 70 : Int))) := by
  have c0 : w.cell? ⟨gr, 0, none⟩ = some (.slice (some ⟨bl, 0, none⟩) 70 cl) := h.blk.cell 0
  have c1 : w.cell? ⟨gr, 1, none⟩ = some (.slice (some ⟨bd, 0, none⟩) 70 cd) := h.blk.cell 1
  obtain ⟨b, c, rfl, hrow, hbl⟩ := h.newAt h7
  have c4 : w.cell? ⟨gr, 4, none⟩ = some (.slice (some ⟨b, 0, none⟩) 70 c) := h.blk.cell 4
  have h := Lib.hid h
  have hrow := Lib.hid hrow
  have h7 := Lib.hid h7
  go_enter Try.func90, Try.ntmps90
  go_wp2
  go_loop [3, 4] (fun t i => ∃ (k T : Nat), k ≤ 70 ∧ T ≤ k ∧ i = .int .i64 (k : Int) ∧ t = .int .i64 (T : Int) ∧ Hid (rtog r k = T)) (fun _ i => 70 - (RowKit.intOf i).toNat)
  case atStart => exact ⟨0, 0, by omega, by omega, rfl, rfl, Lib.hid rfl⟩
  case round =>
    obtain ⟨k, T, hk, hT, rfl, rfl, hE⟩ := hrel
    by_cases hlt : k < 70
    · have hlt' : (k : Int) < 70 := by omega
      have c2 := h.out.atD hlt
      have c3 := hrow.out.atS (k := k) (by rw [h7.out]; exact hlt)
      obtain ⟨X, hX⟩ : ∃ X, Hid (r.nw.getD k [] = X) := ⟨_, Lib.hid rfl⟩
      obtain ⟨B, hB⟩ : ∃ X, Hid (r.D.getD k false = X) := ⟨_, Lib.hid rfl⟩
      have hne : ((⟨X.toArray⟩ : ByteArray).toList == (⟨#[]⟩ : ByteArray).toList) = decide (X = []) := str_beq X []
      rw [hX.out] at c3
      rw [hB.out] at c2
      unfold str at c3
      have hS : Hid (rtog r (k + 1) = T + (if rtogB r k = true then 1 else 0)) := by show _ = _; rw [rtog_succ, hE.out]
      cases B with
      | true =>
        have hS : Hid (rtog r (k + 1) = T + 1) := by show _ = _; rw [hS.out]; unfold rtogB; rw [hB.out]; rfl
        clear hne hE hX hB
        go_wp2
        go_round
        case rel => exact ⟨k + 1, T + 1, by omega, by omega, by go_num, by go_num, hS⟩
        case measure => simp [RowKit.intOf]; omega
      | false =>
        by_cases hx0 : X = []
        · subst hx0
          have hS : Hid (rtog r (k + 1) = T) := by show _ = _; rw [hS.out]; unfold rtogB; rw [hB.out, hX.out]; rfl
          clear hE hX hB
          go_wp2
          go_round
          case rel => exact ⟨k + 1, T, by omega, by omega, by go_num, rfl, hS⟩
          case measure => simp [RowKit.intOf]; omega
        · rw [decide_eq_false hx0] at hne
          have hie := ne_empty_of hx0
          have hS : Hid (rtog r (k + 1) = T + 1) := by show _ = _; rw [hS.out]; unfold rtogB; rw [hB.out, hX.out, hie]; rfl
          replace hx0 := Lib.hid hx0
          clear hE hX hB
          go_wp2
          go_round
          case rel => exact ⟨k + 1, T + 1, by omega, by omega, by go_num, by go_num, hS⟩
          case measure => simp [RowKit.intOf]; omega
    · obtain rfl : k = 70 := by omega
      have hE2 := hE.out
      subst hE2
      clear hE h hrow h7
      go_wp2
      go_ret
      exact ⟨rfl, rfl⟩
theorem RG.drew {w : World} {gr bl cl bd cd : Nat} {nv : Value} {r : Rl} (h : RG w gr bl cl bd cd nv r) : RG w.drew gr bl cl bd cd nv r := ⟨h.blk, h.l, h.d, h.ll, h.dl, h.n, h.ap⟩
def mrgL (r : Rl) (m : Nat) : List UInt8 := if r.nw.getD m [] = [] then r.L.getD m [] else r.nw.getD m []
def mrgD (r : Rl) (m : Nat) : Bool := if r.nw.getD m [] = [] then r.D.getD m false else true
def rsyncP (r : Rl) : Rl := { r with D := List.replicate 70 false, pn := 0, sy := r.sy + 1 }
def rmergeP (r : Rl) : Rl := { r with op := false, L := (List.range 70).map (mrgL r), D := (List.range 70).map (mrgD r), pn := r.pn + 1 }
/-- What Commit of an open one leaves. -/
def rcommitP (r : Rl) : Rl := rmergeP (if 63 < rtog r 70 then rsyncP r else r)
theorem RG.setL {w : World} {gr bl cl bd cd : Nat} {nv : Value} {r : Rl} (h : RG w gr bl cl bd cd nv r) {n : Nat} (hn : n < 70) (bs : List UInt8) : RG (w.setCell ⟨bl, n, none⟩ (str bs)) gr bl cl bd cd nv { r with L := r.L.set n bs } := by
  have hc : Chg (fun k => k = bl) w (w.setCell ⟨bl, n, none⟩ (str bs)) := chg_set ⟨bl, n, none⟩ _
  refine ⟨h.blk.chg hc (fun e => (h.l.neB h.blk (by decide)) e.symm), ?_, h.d.chg hc (h.d.ne_ h.l (by decide)), ⟨by show (r.L.set n bs).length = 70; rw [List.length_set]; exact h.ll.1, h.ll.2⟩, h.dl, ?_, h.ap⟩
  · show RowB _ _ _ ((r.L.set n bs).map str)
    rw [List.map_set]
    exact h.l.set_ (by rw [List.length_map, h.ll.1]; exact hn) _
  · rcases h.n with h1 | ⟨b2, c, e, h2, h3, h4⟩
    · exact .inl h1
    · exact .inr ⟨b2, c, e, h2, h3, h4.chg hc (fun e2 => h.ap (by rw [e]; show some b2 = some bl; rw [e2]))⟩
/-- L and D behind i rounds of the merge. -/
def Mrgd (r : Rl) (i : Nat) (L : List (List UInt8)) (D : List Bool) : Prop := L.length = 70 ∧ D.length = 70 ∧ ∀ m, m < 70 → L.getD m [] = (if m < i then mrgL r m else r.L.getD m []) ∧ D.getD m false = (if m < i then mrgD r m else r.D.getD m false)
theorem getD_set {α : Type} (l : List α) (i j : Nat) (a d : α) (hi : i < l.length) : (l.set i a).getD j d = if j = i then a else l.getD j d := by
  rw [List.getD_eq_getElem?_getD, List.getD_eq_getElem?_getD]
  by_cases e : j = i
  · subst e
    rw [List.getElem?_set_self hi, if_pos rfl]
    rfl
  · rw [List.getElem?_set_ne (fun h => e h.symm), if_neg e]
theorem Mrgd.put {r : Rl} {i : Nat} {L : List (List UInt8)} {D : List Bool} (h : Mrgd r i L D) (hi : i < 70) (hx : r.nw.getD i [] ≠ []) : Mrgd r (i + 1) (L.set i (r.nw.getD i [])) (D.set i true) := by
  obtain ⟨h1, h2, h3⟩ := h
  refine ⟨by rw [List.length_set]; exact h1, by rw [List.length_set]; exact h2, fun m hm => ?_⟩
  rw [getD_set _ _ _ _ _ (by omega), getD_set _ _ _ _ _ (by omega)]
  by_cases e : m = i
  · subst e
    rw [if_pos rfl, if_pos rfl, if_pos (by omega), if_pos (by omega)]
    unfold mrgL mrgD
    rw [if_neg hx, if_neg hx]
    exact ⟨rfl, rfl⟩
  · rw [if_neg e, if_neg e, (h3 m hm).1, (h3 m hm).2]
    by_cases e2 : m < i
    · rw [if_pos e2, if_pos e2, if_pos (by omega), if_pos (by omega)]
      exact ⟨rfl, rfl⟩
    · rw [if_neg e2, if_neg e2, if_neg (by omega), if_neg (by omega)]
      exact ⟨rfl, rfl⟩
theorem Mrgd.skip {r : Rl} {i : Nat} {L : List (List UInt8)} {D : List Bool} (h : Mrgd r i L D) (hx : r.nw.getD i [] = []) : Mrgd r (i + 1) L D := by
  obtain ⟨h1, h2, h3⟩ := h
  refine ⟨h1, h2, fun m hm => ?_⟩
  rw [(h3 m hm).1, (h3 m hm).2]
  by_cases e : m = i
  · subst e
    rw [if_neg (Nat.lt_irrefl m), if_neg (Nat.lt_irrefl m), if_pos (Nat.lt_succ_self m), if_pos (Nat.lt_succ_self m)]
    unfold mrgL mrgD
    rw [if_pos hx, if_pos hx]
    exact ⟨rfl, rfl⟩
  · by_cases e2 : m < i
    · rw [if_pos e2, if_pos e2, if_pos (by omega), if_pos (by omega)]
      exact ⟨rfl, rfl⟩
    · rw [if_neg e2, if_neg e2, if_neg (by omega), if_neg (by omega)]
      exact ⟨rfl, rfl⟩
theorem list_getD70 {α : Type} (l : List α) (d : α) (f : Nat → α) (hl : l.length = 70) (h : ∀ m, m < 70 → l.getD m d = f m) : l = (List.range 70).map f := by
  apply List.ext_getElem?
  intro m
  rw [List.getElem?_map]
  rcases Nat.lt_or_ge m 70 with h1 | h1
  · have e := h m h1
    rw [List.getD_eq_getElem?_getD, List.getElem?_eq_getElem (by omega)] at e
    rw [List.getElem?_eq_getElem (by omega), List.getElem?_range h1]
    show some l[m] = some (f m)
    rw [← e]
    rfl
  · rw [List.getElem?_eq_none (by omega), List.getElem?_eq_none (by simpa using h1)]
    rfl
theorem Mrgd.done {r : Rl} {L : List (List UInt8)} {D : List Bool} (h : Mrgd r 70 L D) : L = (List.range 70).map (mrgL r) ∧ D = (List.range 70).map (mrgD r) :=
  ⟨list_getD70 L [] _ h.1 fun m hm => by rw [(h.2.2 m hm).1, if_pos hm], list_getD70 D false _ h.2.1 fun m hm => by rw [(h.2.2 m hm).2, if_pos hm]⟩
theorem RG.ssub {gr bl bd : Nat} {nv : Value} {k : Nat} (h : k = gr ∨ k = bd) : rgS gr bl bd nv k := by
  rcases h with h | h
  · exact .inl h
  · exact .inr (.inr (.inl h))
set_option maxRecDepth 100000 in
set_option maxHeartbeats 8000000 in
theorem RCommit_fit (w : World) {gr bl cl bd cd : Nat} {nv : Value} {r : Rl} (h : RG w gr bl cl bd cd nv r) (ho : r.op = true) (h7 : r.nw.length = 70) (hs : 0 ≤ r.sy ∧ r.sy ≤ 1000000000) (hp : 0 ≤ r.pn ∧ r.pn ≤ 1000000000) (ht : ¬ 63 < rtog r 70) : Calls Try.prog 67 #[.pointer (some ⟨gr, 0, none⟩)] w fun e w' => e = .returned (.int .i64 0) ∧ RG w' gr bl cl bd cd nv (rmergeP r) ∧ Chg (rgS gr bl bd nv) w w' := by
  obtain ⟨b, c, rfl, hrow0, hbl⟩ := h.newAt h7
  clear hrow0
  have c3 : w.cell? ⟨gr, 3, none⟩ = some (.bool r.op) := h.blk.cell 3
  rw [ho] at c3
  have htc := Rtog_calls w h h7
  have hT := rtog_le r 70
  obtain ⟨T, hTe⟩ : ∃ T, Hid (rtog r 70 = T) := ⟨_, Lib.hid rfl⟩
  rw [hTe.out] at htc hT ht
  have htc := Lib.hid htc
  have ht' : ¬ ((T : Int) > 63) := by omega
  have hbo := Lib.hid hbl
  have h70 := Lib.hid h7
  have hp1 := Lib.hid hp
  have h := Lib.hid h
  clear hTe h7 hbl hs hp
  obtain ⟨w1, hw1⟩ : ∃ w1, w = w1 := ⟨_, rfl⟩
  subst hw1
  have hC0 := Lib.hid (Chg.refl (rgS gr bl bd (.slice (some ⟨b, 0, none⟩) 70 c)) w)
  go_enter Try.func67, Try.ntmps67
  go_wp2_with fail
  refine htc.out.mono ?_
  rintro e w' ⟨rfl, rfl⟩
  clear htc
  have c3 : w.cell? ⟨gr, 3, none⟩ = some (.bool r.op) := h.out.blk.cell 3
  have f3 := h.out.blk.frozen 3
  have hA := Lib.hid (h.out.own (r' := { r with op := false }) (i := 3) (u := .bool false) (h.out.blk.set_ 3 _) rfl rfl rfl)
  have hCA := Lib.hid (hC0.out.setCell (p := ⟨gr, 3, none⟩) (fun _ => .inl rfl) (.bool false))
  clear h hC0
  go_wp2
  go_loopw [3] (fun iv wr => ∃ (i : Nat) (L : List (List UInt8)) (D : List Bool), i ≤ 70 ∧ iv = .int .i64 (i : Int) ∧ Hid (RG wr gr bl cl bd cd (.slice (some ⟨b, 0, none⟩) 70 c) { r with op := false, L := L, D := D }) ∧ Hid (Chg (rgS gr bl bd (.slice (some ⟨b, 0, none⟩) 70 c)) w wr) ∧ Hid (Mrgd r i L D)) (fun iv _ => 70 - (RowKit.intOf iv).toNat)
  case atStart => exact ⟨0, r.L, r.D, by omega, rfl, hA, hCA, Lib.hid ⟨hA.out.ll.1, hA.out.dl.1, fun m hm => ⟨by rw [if_neg (by omega)], by rw [if_neg (by omega)]⟩⟩⟩
  case round =>
    obtain ⟨i, L, D, hi, rfl, hR, hC, hM⟩ := hrel
    clear hA hCA c3 f3
    have c0 : wr.cell? ⟨gr, 0, none⟩ = some (.slice (some ⟨bl, 0, none⟩) 70 cl) := hR.out.blk.cell 0
    by_cases hi7 : i < 70
    · have hi7' : (i : Int) < 70 := by omega
      have c1 : wr.cell? ⟨gr, 1, none⟩ = some (.slice (some ⟨bd, 0, none⟩) 70 cd) := hR.out.blk.cell 1
      have c4 : wr.cell? ⟨gr, 4, none⟩ = some (.slice (some ⟨b, 0, none⟩) 70 c) := hR.out.blk.cell 4
      obtain ⟨X, hX⟩ : ∃ X, Hid (r.nw.getD i [] = X) := ⟨_, Lib.hid rfl⟩
      obtain ⟨b', c', e', hrow, _⟩ := hR.out.newAt h70.out
      injection e' with e' _ _
      injection e' with e'
      injection e' with e' _ _
      subst e'
      have c5 : wr.cell? ⟨b, i, none⟩ = some (str X) := by
        have := hrow.atS (k := i) (by rw [show ({ r with op := false, L := L, D := D } : Rl).nw.length = 70 from h70.out]; exact hi7)
        rw [this]
        show some (str (r.nw.getD i [])) = _
        rw [hX.out]
      have hne : ((⟨X.toArray⟩ : ByteArray).toList == (⟨#[]⟩ : ByteArray).toList) = decide (X = []) := str_beq X []
      unfold str at c5
      clear hrow
      by_cases hx0 : X = []
      · subst hx0
        have hM2 := Lib.hid (hM.out.skip hX.out)
        clear hM hX
        go_wp2
        go_roundw
        case rel => exact ⟨i + 1, L, D, by omega, by go_num, hR, hC, hM2⟩
        case measure => simp [RowKit.intOf]; omega
      · rw [decide_eq_false hx0] at hne
        have hie := ne_empty_of hx0
        have hM2 := Lib.hid (hM.out.put hi7 (by rw [hX.out]; exact hx0))
        rw [hX.out] at hM2
        obtain ⟨u6, c6⟩ : ∃ u, wr.cell? ⟨bl, i, none⟩ = some u := ⟨_, hR.out.atL hi7⟩
        obtain ⟨u7, c7⟩ : ∃ u, wr.cell? ⟨bd, i, none⟩ = some u := ⟨_, hR.out.atD hi7⟩
        obtain ⟨sp, hbl6⟩ := hR.out.l
        have f6 := Blk.frozen hbl6 i
        obtain ⟨sp2, hbd7⟩ := hR.out.d
        have f7 := Blk.frozen hbd7 i
        have hgl : gr ≠ bl := fun e => (hbl6.ne_ hR.out.blk (by decide)) e.symm
        have hdl : bd ≠ bl := hbd7.ne_ hbl6 (by decide)
        have hR1 := hR.out.setL hi7 X
        have hR2 := Lib.hid (hR1.setD hi7 true)
        unfold str at hR2
        have hC2 := Lib.hid ((hC.out.setCell (p := ⟨bl, i, none⟩) (fun _ => .inr (.inl rfl)) (.string ⟨X.toArray⟩)).setCell (p := ⟨bd, i, none⟩) (fun _ => .inr (.inr (.inl rfl))) (.bool true))
        replace hx0 := Lib.hid hx0
        clear hR1 hbl6 hbd7 hR hC hM hX
        go_wp2
        go_still_tail 13, (by kernel_rfl)
        go_wp2
        go_roundw
        case rel => exact ⟨i + 1, _, _, by omega, by go_num, Lib.hid hR2.out.drew, Lib.hid hC2.out.drew, hM2⟩
        case measure => simp [RowKit.intOf]; omega
    · obtain rfl : i = 70 := by omega
      obtain ⟨rfl, rfl⟩ := hM.out.done
      have c2 : wr.cell? ⟨gr, 2, none⟩ = some (.int .i64 r.pn) := hR.out.blk.cell 2
      have f2 := hR.out.blk.frozen 2
      have hp2 := hp1.out
      have hfin := Lib.hid (hR.out.own (r' := rmergeP r) (i := 2) (u := .int .i64 (r.pn + 1)) (hR.out.blk.set_ 2 _) rfl rfl rfl)
      have hC2 := Lib.hid (hC.out.setCell (p := ⟨gr, 2, none⟩) (fun _ => .inl rfl) (.int .i64 (r.pn + 1)))
      clear hR hC hM
      go_wp2
      go_ret
      exact ⟨rfl, hfin.out, hC2.out⟩
set_option maxRecDepth 100000 in
set_option maxHeartbeats 8000000 in
theorem RCommit_sync (w : World) {gr bl cl bd cd : Nat} {nv : Value} {r : Rl} (h : RG w gr bl cl bd cd nv r) (ho : r.op = true) (h7 : r.nw.length = 70) (hs : 0 ≤ r.sy ∧ r.sy ≤ 1000000000) (hp : 0 ≤ r.pn ∧ r.pn ≤ 1000000000) (ht : 63 < rtog r 70) : Calls Try.prog 67 #[.pointer (some ⟨gr, 0, none⟩)] w fun e w' => e = .returned (.int .i64 0) ∧ RG w' gr bl cl bd cd nv (rmergeP (rsyncP r)) ∧ Chg (rgS gr bl bd nv) w w' := by
  obtain ⟨b, c, rfl, hrow0, hbl⟩ := h.newAt h7
  clear hrow0
  have c3 : w.cell? ⟨gr, 3, none⟩ = some (.bool r.op) := h.blk.cell 3
  rw [ho] at c3
  have htc := Rtog_calls w h h7
  have hT := rtog_le r 70
  obtain ⟨T, hTe⟩ : ∃ T, Hid (rtog r 70 = T) := ⟨_, Lib.hid rfl⟩
  rw [hTe.out] at htc hT ht
  have htc := Lib.hid htc
  have ht' : ((T : Int) > 63) := by omega
  have hSy := Lib.hid (RSync_calls w h hs)
  have hbo := Lib.hid hbl
  have h70 := Lib.hid h7
  clear h hTe h7 hbl hs
  have hp1 : Hid (0 ≤ (rsyncP r).pn ∧ (rsyncP r).pn ≤ 1000000000) := ⟨Int.le_refl _, by show (0 : Int) ≤ _; omega⟩
  have h70 : Hid ((rsyncP r).nw.length = 70) := h70
  clear hp
  go_enter Try.func67, Try.ntmps67
  go_wp2_with fail
  refine htc.out.mono ?_
  rintro e w' ⟨rfl, rfl⟩
  go_wp2_with fail
  refine hSy.out.mono ?_
  rintro e w1 ⟨rfl, h, hC0⟩
  have h : Hid (RG w1 gr bl cl bd cd (.slice (some ⟨b, 0, none⟩) 70 c) (rsyncP r)) := Lib.hid h
  have hC0 := Lib.hid (hC0.mono (S' := rgS gr bl bd (.slice (some ⟨b, 0, none⟩) 70 c)) (fun k _ hk => RG.ssub hk))
  clear hSy htc
  have c3 : w1.cell? ⟨gr, 3, none⟩ = some (.bool (rsyncP r).op) := h.out.blk.cell 3
  have f3 := h.out.blk.frozen 3
  have hA := Lib.hid (h.out.own (r' := { (rsyncP r) with op := false }) (i := 3) (u := .bool false) (h.out.blk.set_ 3 _) rfl rfl rfl)
  have hCA := Lib.hid (hC0.out.setCell (p := ⟨gr, 3, none⟩) (fun _ => .inl rfl) (.bool false))
  clear h hC0
  go_wp2
  go_loopw [3] (fun iv wr => ∃ (i : Nat) (L : List (List UInt8)) (D : List Bool), i ≤ 70 ∧ iv = .int .i64 (i : Int) ∧ Hid (RG wr gr bl cl bd cd (.slice (some ⟨b, 0, none⟩) 70 c) { (rsyncP r) with op := false, L := L, D := D }) ∧ Hid (Chg (rgS gr bl bd (.slice (some ⟨b, 0, none⟩) 70 c)) w wr) ∧ Hid (Mrgd (rsyncP r) i L D)) (fun iv _ => 70 - (RowKit.intOf iv).toNat)
  case atStart => exact ⟨0, (rsyncP r).L, (rsyncP r).D, by omega, rfl, hA, hCA, Lib.hid ⟨hA.out.ll.1, hA.out.dl.1, fun m hm => ⟨by rw [if_neg (by omega)], by rw [if_neg (by omega)]⟩⟩⟩
  case round =>
    obtain ⟨i, L, D, hi, rfl, hR, hC, hM⟩ := hrel
    clear hA hCA c3 f3
    have c0 : wr.cell? ⟨gr, 0, none⟩ = some (.slice (some ⟨bl, 0, none⟩) 70 cl) := hR.out.blk.cell 0
    by_cases hi7 : i < 70
    · have hi7' : (i : Int) < 70 := by omega
      have c1 : wr.cell? ⟨gr, 1, none⟩ = some (.slice (some ⟨bd, 0, none⟩) 70 cd) := hR.out.blk.cell 1
      have c4 : wr.cell? ⟨gr, 4, none⟩ = some (.slice (some ⟨b, 0, none⟩) 70 c) := hR.out.blk.cell 4
      obtain ⟨X, hX⟩ : ∃ X, Hid ((rsyncP r).nw.getD i [] = X) := ⟨_, Lib.hid rfl⟩
      obtain ⟨b', c', e', hrow, _⟩ := hR.out.newAt h70.out
      injection e' with e' _ _
      injection e' with e'
      injection e' with e' _ _
      subst e'
      have c5 : wr.cell? ⟨b, i, none⟩ = some (str X) := by
        have := hrow.atS (k := i) (by rw [show ({ (rsyncP r) with op := false, L := L, D := D } : Rl).nw.length = 70 from h70.out]; exact hi7)
        rw [this]
        show some (str ((rsyncP r).nw.getD i [])) = _
        rw [hX.out]
      have hne : ((⟨X.toArray⟩ : ByteArray).toList == (⟨#[]⟩ : ByteArray).toList) = decide (X = []) := str_beq X []
      unfold str at c5
      clear hrow
      by_cases hx0 : X = []
      · subst hx0
        have hM2 := Lib.hid (hM.out.skip hX.out)
        clear hM hX
        go_wp2
        go_roundw
        case rel => exact ⟨i + 1, L, D, by omega, by go_num, hR, hC, hM2⟩
        case measure => simp [RowKit.intOf]; omega
      · rw [decide_eq_false hx0] at hne
        have hie := ne_empty_of hx0
        have hM2 := Lib.hid (hM.out.put hi7 (by rw [hX.out]; exact hx0))
        rw [hX.out] at hM2
        obtain ⟨u6, c6⟩ : ∃ u, wr.cell? ⟨bl, i, none⟩ = some u := ⟨_, hR.out.atL hi7⟩
        obtain ⟨u7, c7⟩ : ∃ u, wr.cell? ⟨bd, i, none⟩ = some u := ⟨_, hR.out.atD hi7⟩
        obtain ⟨sp, hbl6⟩ := hR.out.l
        have f6 := Blk.frozen hbl6 i
        obtain ⟨sp2, hbd7⟩ := hR.out.d
        have f7 := Blk.frozen hbd7 i
        have hgl : gr ≠ bl := fun e => (hbl6.ne_ hR.out.blk (by decide)) e.symm
        have hdl : bd ≠ bl := hbd7.ne_ hbl6 (by decide)
        have hR1 := hR.out.setL hi7 X
        have hR2 := Lib.hid (hR1.setD hi7 true)
        unfold str at hR2
        have hC2 := Lib.hid ((hC.out.setCell (p := ⟨bl, i, none⟩) (fun _ => .inr (.inl rfl)) (.string ⟨X.toArray⟩)).setCell (p := ⟨bd, i, none⟩) (fun _ => .inr (.inr (.inl rfl))) (.bool true))
        replace hx0 := Lib.hid hx0
        clear hR1 hbl6 hbd7 hR hC hM hX
        go_wp2
        go_still_tail 13, (by kernel_rfl)
        go_wp2
        go_roundw
        case rel => exact ⟨i + 1, _, _, by omega, by go_num, Lib.hid hR2.out.drew, Lib.hid hC2.out.drew, hM2⟩
        case measure => simp [RowKit.intOf]; omega
    · obtain rfl : i = 70 := by omega
      obtain ⟨rfl, rfl⟩ := hM.out.done
      have c2 : wr.cell? ⟨gr, 2, none⟩ = some (.int .i64 (rsyncP r).pn) := hR.out.blk.cell 2
      have f2 := hR.out.blk.frozen 2
      have hp2 := hp1.out
      have hfin := Lib.hid (hR.out.own (r' := rmergeP (rsyncP r)) (i := 2) (u := .int .i64 ((rsyncP r).pn + 1)) (hR.out.blk.set_ 2 _) rfl rfl rfl)
      have hC2 := Lib.hid (hC.out.setCell (p := ⟨gr, 2, none⟩) (fun _ => .inl rfl) (.int .i64 ((rsyncP r).pn + 1)))
      clear hR hC hM
      go_wp2
      go_ret
      exact ⟨rfl, hfin.out, hC2.out⟩
theorem RCommit_calls (w : World) {gr bl cl bd cd : Nat} {nv : Value} {r : Rl} (h : RG w gr bl cl bd cd nv r) (ho : r.op = true) (h7 : r.nw.length = 70) (hs : 0 ≤ r.sy ∧ r.sy ≤ 1000000000) (hp : 0 ≤ r.pn ∧ r.pn ≤ 1000000000) : Calls Try.prog 67 #[.pointer (some ⟨gr, 0, none⟩)] w fun e w' => e = .returned (.int .i64 0) ∧ RG w' gr bl cl bd cd nv (rcommitP r) ∧ Chg (rgS gr bl bd nv) w w' := by
  unfold rcommitP
  by_cases ht : 63 < rtog r 70
  · rw [if_pos ht]
    exact RCommit_sync w h ho h7 hs hp ht
  · rw [if_neg ht]
    exact RCommit_fit w h ho h7 hs hp ht
set_option maxRecDepth 10000 in
theorem RCommit_shut (w : World) {gr bl cl bd cd : Nat} {nv : Value} {r : Rl} (h : RG w gr bl cl bd cd nv r) (ho : r.op = false) : Calls Try.prog 67 #[.pointer (some ⟨gr, 0, none⟩)] w (Ans w (.int .i64 15)) := by
  have c3 : w.cell? ⟨gr, 3, none⟩ = some (.bool r.op) := h.blk.cell 3
  rw [ho] at c3
  clear h
  go_enter Try.func67, Try.ntmps67
  go_wp2
  go_ret
  exact ⟨rfl, rfl⟩
end Go.Proofs.Ytlfbfmeppcicnaa
namespace Go.Proofs.Ytlfbfmeppcicnaa
open Go.RowKit
theorem Try.info_bool : (Try.prog.info? 4).map (fun i => (i.zero, i.size, i.bytes)) = some (some (.bool false), 1, 1) := by kernel_rfl
theorem RowB.of_own {w : World} {t : TypeId} {v : Value} {us : List Value} (h : w.ownsRow 0 t 1 v 70 us) : ∃ b c, v = .slice (some ⟨b, 0, none⟩) 70 c ∧ 70 ≤ c ∧ RowB w t b us := by
  rcases h.2 with ⟨_, h0⟩ | ⟨g, cap, cur, rfl, _, hg, hc, _, _, ht⟩
  · cases h0
  · refine ⟨g, cap, rfl, hc, cur.toList.drop (70 * 1), ?_⟩
    have e : (us ++ cur.toList.drop (70 * 1)).toArray = cur := by rw [← ht, List.take_append_drop]
    rw [e]
    exact hg
theorem own_kindL {w : World} {base e size n : Nat} {v : Value} {xs : List Value} (h : w.ownsRow base e size v n xs) {k : Nat} (hk : v.ownBlock = some k) : ∃ cs, Blk w k e cs := by
  rcases h.2 with ⟨rfl, _⟩ | ⟨g', cap, cur, rfl, _, hg, _⟩
  · simp [Value.ownBlock] at hk
  · have x : g' = k := by simpa [Value.ownBlock] using hk
    subst x
    exact ⟨cur, hg⟩
theorem own_chgL {w w' : World} {t : TypeId} {s n : Nat} {v : Value} {xs : List Value} {S : Nat → Prop} (h : w.ownsRow 0 t s v n xs) (hc : Chg S w w') (hs : ∀ j, v.ownBlock = some j → ¬ S j) : w'.ownsRow 0 t s v n xs :=
  ⟨h.1, by
    rcases h.2 with h | ⟨g, cap, cur, rfl, hb, hg, rest⟩
    · exact .inl h
    · exact .inr ⟨g, cap, cur, rfl, hb, (hc.block g (Blk.lt hg) (hs g rfl)).trans hg, rest⟩⟩
/-- A log on its way: k blocks. -/
structure MkR (w0 w : World) (gr : Nat) (vl vd : Value) (i j : Nat) (zb : List UInt8) : Prop where
  blk : Blk w gr 68 #[vl, vd, .int .i64 0, .bool false, .slice none 0 0, .int .i64 0, .int .i64 0]
  l : w.ownsRow 0 9 1 vl i ((List.replicate i zb).map str)
  d : w.ownsRow 0 4 1 vd j ((List.replicate j false).map Value.bool)
  bel : Below w0.heap.size w0 w
  ng : w0.heap.size ≤ gr
  nl : ∀ k, vl.ownBlock = some k → w0.heap.size ≤ k
  nd : ∀ k, vd.ownBlock = some k → w0.heap.size ≤ k
theorem repl_snoc {α β : Type} (f : α → β) (k : Nat) (a : α) : (List.replicate (k + 1) a).map f = (List.replicate k a).map f ++ [f a] := by
  rw [List.replicate_succ', List.map_append]
  rfl
theorem MkR.addL {w0 w w1 w2 : World} {gr : Nat} {vl vd v' : Value} {i j : Nat} {zb : List UInt8} (h : MkR w0 w gr vl vd i j zb) {ob : Obj} (e1 : w1 = w.alloc ob) (hown : w2.ownsRow 0 9 1 v' (i + 1) ((List.replicate i zb).map str ++ [str zb])) (hg : w1.grownBy w2 vl.ownBlock) (hat : v'.ownBlock = vl.ownBlock ∨ v'.ownBlock = some w1.heap.size) :
    MkR w0 (w2.setCell ⟨gr, 0, none⟩ v') gr v' vd (i + 1) j zb ∧ Blk w2 gr 68 #[vl, vd, .int .i64 0, .bool false, .slice none 0 0, .int .i64 0, .int .i64 0] := by
  subst e1
  have hgv : ∀ k, vl.ownBlock = some k → k ≠ gr := fun k hk e => by
    obtain ⟨cs, hb⟩ := own_kindL h.l hk
    exact (hb.ne_ h.blk (by decide)) e
  have hgd : ∀ k, vd.ownBlock = some k → vl.ownBlock ≠ some k := fun k hk e => by
    obtain ⟨cs, hb⟩ := own_kindL h.l e
    obtain ⟨cs2, hb2⟩ := own_kindL h.d hk
    exact absurd rfl (hb.ne_ hb2 (by decide))
  have hb2 := (h.blk.alloc ob).grown hg (fun e => hgv gr e.symm rfl)
  have hB2 := (h.bel.alloc h.bel.size ob).grown hg (by rw [World.size_alloc]; have := h.bel.size; omega) (fun k hk => h.nl k hk)
  have hd2 : w2.ownsRow 0 4 1 vd j ((List.replicate j false).map Value.bool) := by
    have hc : Chg (fun k => vl.ownBlock = some k) w w2 := ((Chg.refl _ w).alloc ob).grown hg (fun k hk _ => hk)
    exact own_chgL h.d hc fun k hk => hgd k hk
  have hnl : ∀ k, v'.ownBlock = some k → w0.heap.size ≤ k := fun k hk => by
    rcases hat with e | e
    · exact h.nl k (e ▸ hk)
    · rw [hk] at e
      injection e with e
      rw [World.size_alloc] at e
      have := h.bel.size
      omega
  have hne : ∀ k, v'.ownBlock = some k → k ≠ gr := fun k hk e => by
    obtain ⟨cs, hb⟩ := own_kindL hown hk
    exact (hb.ne_ hb2 (by decide)) e
  refine ⟨⟨hb2.set_ 0 _, ?_, own_chgL hd2 (chg_set ⟨gr, 0, none⟩ _) (fun k hk e => ?_), hB2.setCell (p := ⟨gr, 0, none⟩) h.ng v', h.ng, hnl, h.nd⟩, hb2⟩
  · rw [repl_snoc]
    exact own_chgL hown (chg_set ⟨gr, 0, none⟩ _) fun k hk e => hne k hk e
  · obtain ⟨cs, hb⟩ := own_kindL hd2 hk
    exact (hb.ne_ hb2 (by decide)) e
theorem MkR.addD {w0 w w1 w2 : World} {gr : Nat} {vl vd v' : Value} {i j : Nat} {zb : List UInt8} (h : MkR w0 w gr vl vd i j zb) {ob : Obj} (e1 : w1 = w.alloc ob) (hown : w2.ownsRow 0 4 1 v' (j + 1) ((List.replicate j false).map Value.bool ++ [.bool false])) (hg : w1.grownBy w2 vd.ownBlock) (hat : v'.ownBlock = vd.ownBlock ∨ v'.ownBlock = some w1.heap.size) :
    MkR w0 (w2.setCell ⟨gr, 1, none⟩ v') gr vl v' i (j + 1) zb ∧ Blk w2 gr 68 #[vl, vd, .int .i64 0, .bool false, .slice none 0 0, .int .i64 0, .int .i64 0] := by
  subst e1
  have hgv : ∀ k, vd.ownBlock = some k → k ≠ gr := fun k hk e => by
    obtain ⟨cs, hb⟩ := own_kindL h.d hk
    exact (hb.ne_ h.blk (by decide)) e
  have hgd : ∀ k, vl.ownBlock = some k → vd.ownBlock ≠ some k := fun k hk e => by
    obtain ⟨cs, hb⟩ := own_kindL h.d e
    obtain ⟨cs2, hb2⟩ := own_kindL h.l hk
    exact absurd rfl (hb.ne_ hb2 (by decide))
  have hb2 := (h.blk.alloc ob).grown hg (fun e => hgv gr e.symm rfl)
  have hB2 := (h.bel.alloc h.bel.size ob).grown hg (by rw [World.size_alloc]; have := h.bel.size; omega) (fun k hk => h.nd k hk)
  have hd2 : w2.ownsRow 0 9 1 vl i ((List.replicate i zb).map str) := by
    have hc : Chg (fun k => vd.ownBlock = some k) w w2 := ((Chg.refl _ w).alloc ob).grown hg (fun k hk _ => hk)
    exact own_chgL h.l hc fun k hk => hgd k hk
  have hnl : ∀ k, v'.ownBlock = some k → w0.heap.size ≤ k := fun k hk => by
    rcases hat with e | e
    · exact h.nd k (e ▸ hk)
    · rw [hk] at e
      injection e with e
      rw [World.size_alloc] at e
      have := h.bel.size
      omega
  have hne : ∀ k, v'.ownBlock = some k → k ≠ gr := fun k hk e => by
    obtain ⟨cs, hb⟩ := own_kindL hown hk
    exact (hb.ne_ hb2 (by decide)) e
  refine ⟨⟨hb2.set_ 1 _, own_chgL hd2 (chg_set ⟨gr, 1, none⟩ _) (fun k hk e => ?_), ?_, hB2.setCell (p := ⟨gr, 1, none⟩) h.ng v', h.ng, h.nl, hnl⟩, hb2⟩
  · obtain ⟨cs, hb⟩ := own_kindL hd2 hk
    exact (hb.ne_ hb2 (by decide)) e
  · rw [repl_snoc]
    exact own_chgL hown (chg_set ⟨gr, 1, none⟩ _) fun k hk e => hne k hk e
def newRl : Rl := ⟨List.replicate 70 zblk, List.replicate 70 false, 0, false, [], 0, 0⟩
theorem MkR.rg {w0 w : World} {gr : Nat} {vl vd : Value} (h : MkR w0 w gr vl vd 70 70 zblk) : ∃ bl cl bd cd, RG w gr bl cl bd cd (.slice none 0 0) newRl ∧ w0.heap.size ≤ bl ∧ w0.heap.size ≤ bd := by
  obtain ⟨bl, cl, rfl, h1, h2⟩ := RowB.of_own h.l
  obtain ⟨bd, cd, rfl, h3, h4⟩ := RowB.of_own h.d
  exact ⟨bl, cl, bd, cd, ⟨h.blk, h2, h4, ⟨List.length_replicate, h1⟩, ⟨List.length_replicate, h3⟩, .inl ⟨rfl, rfl⟩, by simp [Value.ownBlock]⟩, h.nl bl rfl, h.nd bd rfl⟩
def MadeR (w : World) (e : Ending) (w' : World) : Prop := ∃ gr bl cl bd cd, e = .returned (.pointer (some ⟨gr, 0, none⟩)) ∧ RG w' gr bl cl bd cd (.slice none 0 0) newRl ∧ Below w.heap.size w w' ∧ w.heap.size ≤ gr ∧ w.heap.size ≤ bl ∧ w.heap.size ≤ bd
set_option maxRecDepth 100000 in
set_option maxHeartbeats 8000000 in
theorem RMake_calls (w : World) : Calls Try.prog 36 #[.int .i64 135] w (MadeR w) := by
  obtain ⟨i0, hi, hz0, hz1, hz2⟩ := info_parts Try.info_u8
  obtain ⟨i2, hj, hy0, hy1, hy2⟩ := info_parts Try.info_str
  obtain ⟨i3, hk3, hx0, hx1, hx2⟩ := info_parts Try.info_bool
  obtain ⟨zs, hzs⟩ : ∃ zs, List.replicate 512 (Value.int .u8 0) = zs := ⟨_, rfl⟩
  have hmk := run_mkr (P := Try.prog) 32 5 i0 (.int .u8 0) Try.underlying32 hi hz0 rfl hz1 512 (by rw [hz2]; omega) (by omega)
  rw [hzs] at hmk
  obtain ⟨zb, hzb⟩ : ∃ zb, Hid (zb = zblk) := ⟨_, rfl⟩
  have hzb1 : zs = bvs zb := by rw [← hzs, hzb.out, zblk_bvs]
  have hzl : zs.length = 512 := by rw [← hzs]; simp
  have hcv : ∀ W : World, (convert 32 9 (.slice (some ⟨W.heap.size, 0, none⟩) 512 512)).run Try.prog (W.alloc (.cells zs.toArray 5)) = .ok (.string ⟨zb.toArray⟩) (W.alloc (.cells zs.toArray 5)) := fun W =>
    run_str (P := Try.prog) _ 32 9 5 _ _ Try.underlying32 Try.underlying5 Try.underlying9 (by rw [← hzb1]; exact rd_new W zs 5 512 hzl.symm)
  obtain ⟨w1, hw1⟩ : ∃ w1, w.alloc (.cells #[.slice none 0 0, .slice none 0 0, .int .i64 0, .bool false, .slice none 0 0, .int .i64 0, .int .i64 0] 68) = w1 := ⟨_, rfl⟩
  obtain ⟨w2, hw2⟩ : ∃ w2, w1.alloc (.cells zs.toArray 5) = w2 := ⟨_, rfl⟩
  have hmk1 : (Instr.makeSlice 32 (.int .i64 512) (.int .i64 512)).run Try.prog w1 = .ok (.slice (some ⟨w1.heap.size, 0, none⟩) 512 512) (w1.alloc (.cells zs.toArray 5)) := hmk w1
  have hcv1 := hcv w1
  rw [hw2] at hmk1 hcv1
  have hB0 : Below w.heap.size w w2 := by
    rw [← hw2, ← hw1]
    exact ((Below.refl _ _).alloc (Nat.le_refl _) _).alloc (by simp) _
  have hz : Hid (MkR w w2 w.heap.size (.slice none 0 0) (.slice none 0 0) 0 0 zb) := by
    have hb : Blk w2 w.heap.size 68 #[.slice none 0 0, .slice none 0 0, .int .i64 0, .bool false, .slice none 0 0, .int .i64 0, .int .i64 0] := by rw [← hw2, ← hw1]; exact (Blk.new w _ _).alloc _
    exact ⟨hb, World.ownsRow_nil _ _ _ _, World.ownsRow_nil _ _ _ _, hB0, Nat.le_refl _, fun k hk => by simp [Value.ownBlock] at hk, fun k hk => by simp [Value.ownBlock] at hk⟩
  have hsz1 : w1.heap.size = w.heap.size + 1 := by rw [← hw1]; simp
  obtain ⟨g1, hg1⟩ : ∃ g1, Hid (g1 = w1.heap.size) := ⟨_, rfl⟩
  rw [← hg1.out] at hmk1 hcv1
  clear hmk hcv hzs hw2 hzb1 hzl hsz1 hi hz0 hz1 hz2 hB0
  go_enter Try.func36, Try.ntmps36
  go_wp2
  clear hcv1 hmk1 hg1 hw1
  go_loopw [5] (fun i wr => ∃ (k : Nat) (A B : Option Addr) (c d : Nat), k ≤ 70 ∧ i = .int .i64 ((k : Int) + 65) ∧ Hid (MkR w wr w.heap.size (.slice A k c) (.slice B k d) k k zb)) (fun i _ => 135 - (RowKit.intOf i).toNat)
  case atStart => exact ⟨0, none, none, 0, 0, Nat.zero_le _, rfl, hz⟩
  case round =>
    obtain ⟨k, A, B, c, d, hk, rfl, hD⟩ := hrel
    clear hz
    by_cases hlt : k < 70
    · have hlt' : (k : Int) + 65 < 135 := by omega
      have c0 : wr.cell? ⟨w.heap.size, 0, none⟩ = some (.slice A k c) := hD.out.blk.cell 0
      have hrow1 := Lib.hid (World.ownsRow.alloc hD.out.l (.cells #[.string ⟨zb.toArray⟩] 9))
      have hrd := Lib.hid (show Rd (wr.alloc (.cells #[.string ⟨zb.toArray⟩] 9)) (.slice (some ⟨wr.heap.size, 0, none⟩) 1 1) [.string ⟨zb.toArray⟩] from rd_new wr [.string ⟨zb.toArray⟩] 9 1 rfl)
      go_wp2_with (at_builtin; refine stop_app rfl ?_)
      refine Stop.mk (wpList_app _ rfl rfl (us := [.string ⟨zb.toArray⟩]) (base := 0) Try.underlying42 hj hy0 hy1 hy2 rfl hrow1.out rfl hrd.out rfl (by intro u hu; simp at hu; subst hu; rfl) ?_ ?_ (Nat.zero_le _) ?_)
      · unfold maxLen; simp only [List.length_cons, List.length_nil]; omega
      · simp only [List.length_cons, List.length_nil]; omega
      intro v9 w9 hown hg hat
      obtain ⟨hD9, hb9⟩ := hD.out.addL rfl hown hg hat
      obtain ⟨A9, c9, rfl⟩ := own_shape hown
      have c0' : w9.cell? ⟨w.heap.size, 0, none⟩ = some (.slice A k c) := hb9.cell 0
      have f0' := hb9.frozen 0
      have hD9 : Hid (MkR w (w9.setCell ⟨w.heap.size, 0, none⟩ (.slice A9 (k + 1) c9)) w.heap.size (.slice A9 (k + 1) c9) (.slice B k d) (k + 1) k zb) := Lib.hid hD9
      have c1' : w9.cell? ⟨w.heap.size, 1, none⟩ = some (.slice B k d) := hb9.cell 1
      have f1' := hb9.frozen 1
      have hrow2 := Lib.hid (World.ownsRow.alloc hD9.out.d (.cells #[.bool false] 4))
      have hrd2 := Lib.hid (show Rd ((w9.setCell ⟨w.heap.size, 0, none⟩ (.slice A9 (k + 1) c9)).alloc (.cells #[.bool false] 4)) (.slice (some ⟨(w9.setCell ⟨w.heap.size, 0, none⟩ (.slice A9 (k + 1) c9)).heap.size, 0, none⟩) 1 1) [.bool false] from rd_new _ [.bool false] 4 1 rfl)
      have hszh : Hid ((w9.setCell ⟨w.heap.size, 0, none⟩ (.slice A9 (k + 1) c9)).heap.size = w9.heap.size) := Lib.hid (by simp)
      rw [hszh.out] at hrd2
      clear hown hg hat hb9 hrow1 hrd hD c0
      go_wp2_with (at_builtin; refine stop_app rfl ?_)
      refine Stop.mk (wpList_app _ rfl rfl (us := [.bool false]) (base := 0) Try.underlying66 hk3 hx0 hx1 hx2 rfl hrow2.out rfl hrd2.out rfl (by intro u hu; simp at hu; subst hu; rfl) ?_ ?_ (Nat.zero_le _) ?_)
      · unfold maxLen; simp only [List.length_cons, List.length_nil]; omega
      · simp only [List.length_cons, List.length_nil]; omega
      intro v10 w10 hown hg hat
      obtain ⟨hDx, hbx⟩ := hD9.out.addD rfl hown hg hat
      obtain ⟨B9, d9, rfl⟩ := own_shape hown
      have hDx : Hid (MkR w (w10.setCell ⟨w.heap.size, 1, none⟩ (.slice B9 (k + 1) d9)) w.heap.size (.slice A9 (k + 1) c9) (.slice B9 (k + 1) d9) (k + 1) (k + 1) zb) := Lib.hid hDx
      have c2' : w10.cell? ⟨w.heap.size, 1, none⟩ = some (.slice B k d) := hbx.cell 1
      have f2' := hbx.frozen 1
      clear hown hg hat hbx hrow2 hrd2 hD9 c1' f1' c0' f0' hszh
      go_wp2
      go_roundw
      case rel => exact ⟨k + 1, A9, B9, c9, d9, by omega, by go_num, hDx⟩
      case measure => simp [RowKit.intOf]; omega
    · obtain rfl : k = 70 := by omega
      rw [hzb.out] at hD
      obtain ⟨bl, cl, bd, cd, h1, h2, h3⟩ := hD.out.rg
      have hf : Hid (MadeR w (.returned (.pointer (some ⟨w.heap.size, 0, none⟩))) wr) := Lib.hid ⟨_, bl, cl, bd, cd, rfl, h1, hD.out.bel, Nat.le_refl _, h2, h3⟩
      clear hD h1 h2 h3
      go_wp2
      go_ret
      exact hf.out
end Go.Proofs.Ytlfbfmeppcicnaa
