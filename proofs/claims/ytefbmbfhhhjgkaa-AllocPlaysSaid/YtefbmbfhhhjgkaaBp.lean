/- Read, On, Arm, and what a disk counts. -/
import Derived.Test.YtefbmbfhhhjgkaaBo
namespace Go.Proofs.Ytefbmbfhhhjgkaa
open Go.RowKit
variable {F : Nat → Prop}
theorem Chg.at_ {S : Nat → Prop} {a w : World} (h : Chg S a w) {g i : Nat} (hg : S g) (u : Value) : Chg S a (w.setCell ⟨g, i, none⟩ u) := h.setCell (p := ⟨g, i, none⟩) (fun _ => hg) u
theorem own_ne_blk {w : World} {base e n g c g' t : Nat} {us : List Value} {cs : Array Value} (h : w.ownsRow base e 1 (.slice (some ⟨g, 0, none⟩) n c) n us) (hb : Blk w g' t cs) (ht : e ≠ t) : g ≠ g' := by
  obtain ⟨cs', hc⟩ := own_blk h
  exact hc.ne_ hb ht
theorem Dsk.put {w w' : World} {g gl cl mb : Nat} {pk pk' : Value} {lv : List Value} {mf : Nat → Option Value} {d : Dk} (h : Dsk F w g gl cl mb pk lv mf d) (hb : Chg (fun k => k = g) w w') {off : Bool} {wr arm : Int} {picks : List Int}
    (hblk : Blk w' g 81 #[.slice (some ⟨gl, 0, none⟩) d.l.length cl, .map (some mb), .bool off, .int .i64 wr, .int .i64 arm, pk']) (hp : RdT F 3 w' pk' (ivs picks)) : Dsk F w' g gl cl mb pk' lv mf ⟨d.l, d.wt, off, wr, arm, picks⟩ := by
  have h8 : ∀ k cs, Blk w k 5 cs → ¬ k = g := fun k cs hk => hk.ne_ h.blk (by decide)
  refine ⟨hblk, own_keep h.row (hb.block gl (h.lt (.inr (.inl rfl))) (own_ne_blk h.row h.blk (by decide))), h.wtl, fun i u b h1 h2 => (h.dat i u b h1 h2).chg hb h8, h.len, h.map.chg hb (fun e => h.map.blk_ne h.blk e.symm), fun k vs hk => ?_, h.vlen, h.apart, hp⟩
  rcases h.ver k vs hk with h1 | ⟨h1, b, c, us, h2, h3, h4, h5⟩
  · exact .inl h1
  · exact .inr ⟨h1, b, c, us, h2, own_keep h3 (hb.block b (h.lt (.inr (.inr (.inr ⟨k, _, h2, rfl⟩)))) (own_ne_blk h3 h.blk (by decide))), h4, fun i u x h6 h7 => (h5 i u x h6 h7).chg hb h8⟩
theorem Dsk.wrote {w w' : World} {g gl cl mb : Nat} {pk : Value} {lv : List Value} {mf : Nat → Option Value} {d : Dk} {S : Nat → Prop} (h : Dsk F w' g gl cl mb pk lv mf d) (hs : ∀ k, S k ↔ foot g gl mb mf k) (hc : Chg S w w') : WroteF F w S g d w' :=
  ⟨S, ⟨gl, cl, mb, pk, lv, mf, h, hs⟩, hc, fun k hk => .inl hk⟩
theorem lastP_lenF {w : World} {g : Nat} {d : Dk} {S : Nat → Prop} (hd : DKF F w g d S) {n : Nat} (hn : n < d.l.length) : (lastP d n).length = 512 := by
  obtain ⟨gl, cl, mb, pk, lv, mf, hd, _⟩ := hd
  have hwn : n < d.wt.length := by rw [hd.wtl]; exact hn
  unfold lastP
  have e1 : d.l.getD n [] = d.l[n] := by rw [List.getD_eq_getElem?_getD, List.getElem?_eq_getElem hn]; rfl
  have e2 : d.wt.getD n [] = d.wt[n] := by rw [List.getD_eq_getElem?_getD, List.getElem?_eq_getElem hwn]; rfl
  rw [e1, e2]
  cases hg : d.wt[n].getLast? with
  | none => exact hd.len _ (List.getElem_mem hn)
  | some b => exact hd.vlen _ (List.getElem_mem hwn) b (List.mem_of_getLast? hg)
def ReadOut (w : World) (d : Dk) (n : Int) (e : Ending) (w' : World) : Prop :=
  (askP d n = 0 ∧ ∃ r, e = .returned (.tuple #[r, .int .i64 0]) ∧ Own8 w' r (lastP d n.toNat) ∧ Below w.heap.size w w' ∧ ∀ k, r.ownBlock = some k → w.heap.size ≤ k) ∨
  (askP d n ≠ 0 ∧ e = .returned (.tuple #[.slice none 0 0, .int .i64 (askP d n)]) ∧ w = w')
theorem askP_ok {d : Dk} {n : Int} (h : askP d n = 0) : ∃ k : Nat, n = k ∧ k < d.l.length ∧ d.off = false := by
  unfold askP at h
  split at h
  · cases h
  · rename_i h1
    split at h
    · cases h
    · rename_i h2
      exact ⟨n.toNat, by omega, by omega, by simpa using h1⟩
set_option maxRecDepth 10000 in
set_option maxHeartbeats 1000000 in
theorem Read_callsF (w : World) (g : Nat) (d : Dk) (S : Nat → Prop) (hd : DKF F w g d S) (n : Int) (hl : d.l.length ≤ 16384) (hv : ∀ vs ∈ d.wt, vs.length ≤ 1000000000) :
    Calls Try.prog 51 #[.pointer (some ⟨g, 0, none⟩), .int .i64 n] w (ReadOut w d n) := by
  have HA := Lib.hid (ask_callsF w g d S hd n)
  by_cases h0 : askP d n = 0
  · obtain ⟨k, rfl, hk, _⟩ := askP_ok h0
    have hlen := Lib.hid (lastP_lenF hd hk)
    have HL := Lib.hid (last_callsF w g d S hd k hk hl (by
      rw [List.getD_eq_getElem?_getD]
      rcases Nat.lt_or_ge k d.wt.length with h | h
      · rw [List.getElem?_eq_getElem h]
        exact hv _ (List.getElem_mem h)
      · rw [List.getElem?_eq_none h]
        exact Nat.zero_le _))
    have hO : Hid (∀ e w', (∃ r, e = .returned (.tuple #[r, .int .i64 0]) ∧ Own8 w' r (lastP d k) ∧ Below w.heap.size w w' ∧ ∀ k, r.ownBlock = some k → w.heap.size ≤ k) → ReadOut w d k e w') := fun e w' h => .inl ⟨h0, by rw [Int.toNat_natCast]; exact h⟩
    rw [h0] at HA
    clear h0
    generalize lastP d k = bs at *
    go_enter Try.func51, Try.ntmps51
    go_wp2_with fail
    refine HA.out.mono ?_
    rintro e w1 ⟨rfl, rfl⟩
    go_wp2_with fail
    refine HL.out.mono ?_
    rintro e w1 ⟨⟨r, rfl, hr⟩, rfl⟩
    go_wp2_with fail
    refine (Clone8_calls w r bs hr.1 (by have := hlen.out; omega)).mono ?_
    rintro e w2 ⟨r2, rfl, ho2, hB2, hf2⟩
    have hfin := Lib.hid (hO.out _ w2 ⟨r2, rfl, ho2, hB2, hf2⟩)
    clear ho2 hB2 hf2 hr
    go_wp2
    go_ret2
    exact hfin.out
  · have hO : Hid (∀ e w', e = .returned (.tuple #[.slice none 0 0, .int .i64 (askP d n)]) ∧ w = w' → ReadOut w d n e w') := fun e w' h => .inr ⟨h0, h⟩
    have hne : ((askP d n : Int) == 0) = false := beq_eq_false_iff_ne.2 h0
    have hne2 : ((askP d n : Int) != 0) = true := by rw [bne_iff_ne]; exact h0
    generalize askP d n = a at *
    clear h0
    go_enter Try.func51, Try.ntmps51
    go_wp2_with fail
    refine HA.out.mono ?_
    rintro e w1 ⟨rfl, rfl⟩
    go_wp2
    go_ret2
    exact hO.out _ _ ⟨rfl, rfl⟩
def onD (d : Dk) : Dk := ⟨d.l, d.wt, false, d.wr, 0, []⟩
set_option maxRecDepth 10000 in
theorem On_callsF (w : World) (g : Nat) (d : Dk) (S : Nat → Prop) (hd : DKF F w g d S) :
    Calls Try.prog 31 #[.pointer (some ⟨g, 0, none⟩)] w fun e w' => e = .returned (.tuple #[]) ∧ WroteF F w S g (onD d) w' := by
  have hS := hd.at_
  obtain ⟨gl, cl, mb, pk, lv, mf, hd, hs⟩ := hd
  have hW : Hid (WroteF F w S g (onD d) (((w.setCell ⟨g, 2, none⟩ (.bool false)).setCell ⟨g, 4, none⟩ (.int .i64 0)).setCell ⟨g, 5, none⟩ (.slice none 0 0))) :=
    (hd.put ((((Chg.refl (fun k => k = g) w).at_ rfl _).at_ rfl _).at_ rfl _) (((hd.blk.set_ 2 _).set_ 4 _).set_ 5 _) (RdT.nil _ _)).wrote hs ((((Chg.refl S w).at_ hS _).at_ hS _).at_ hS _)
  have c2 : w.cell? ⟨g, 2, none⟩ = some (.bool d.off) := hd.blk.cell 2
  have c4 : w.cell? ⟨g, 4, none⟩ = some (.int .i64 d.arm) := hd.blk.cell 4
  have c5 : w.cell? ⟨g, 5, none⟩ = some pk := hd.blk.cell 5
  have f2 := hd.blk.frozen 2
  have f4 := hd.blk.frozen 4
  have f5 := hd.blk.frozen 5
  clear hd hs hS
  go_enter Try.func31, Try.ntmps31
  go_wp2
  go_end0
  exact ⟨rfl, hW.out⟩
def armD (d : Dk) (n : Int) (picks : List Int) : Dk := ⟨d.l, d.wt, d.off, d.wr, imax n 0, picks⟩
theorem ivs_one (l : List Int) : ∀ u ∈ ivs l, u.oneCell' = true := by
  intro u hu
  obtain ⟨b, _, rfl⟩ := List.mem_map.1 hu
  rfl
theorem Off_callsF (w : World) (g : Nat) (d : Dk) (S : Nat → Prop) (hd : DKF F w g d S) : Calls Try.prog 46 #[.pointer (some ⟨g, 0, none⟩)] w (Ans w (.bool d.off)) := by
  obtain ⟨gl, cl, mb, pk, lv, mf, hd, hs⟩ := hd
  have c2 : w.cell? ⟨g, 2, none⟩ = some (.bool d.off) := hd.blk.cell 2
  clear hd
  go_enter Try.func46, Try.ntmps46
  go_wp2
  go_ret
  exact ⟨rfl, rfl⟩
theorem Blocks_callsF (w : World) (g : Nat) (d : Dk) (S : Nat → Prop) (hd : DKF F w g d S) : Calls Try.prog 43 #[.pointer (some ⟨g, 0, none⟩)] w (Ans w (.int .i64 d.l.length)) := by
  obtain ⟨gl, cl, mb, pk, lv, mf, hd, hs⟩ := hd
  have c2 : w.cell? ⟨g, 0, none⟩ = some (.slice (some ⟨gl, 0, none⟩) d.l.length cl) := hd.blk.cell 0
  clear hd
  go_enter Try.func43, Try.ntmps43
  go_wp2
  go_ret
  exact ⟨rfl, rfl⟩
end Go.Proofs.Ytefbmbfhhhjgkaa
