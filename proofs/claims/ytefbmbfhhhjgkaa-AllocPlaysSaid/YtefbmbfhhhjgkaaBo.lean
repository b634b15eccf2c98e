/- What a disk tells: ask, last, Read, the counters. -/
import Derived.Test.YtefbmbfhhhjgkaaBn
namespace Go.Proofs.Ytefbmbfhhhjgkaa
open Go.RowKit
variable {F : Nat → Prop}
def Ans (w : World) (v : Value) (e : Ending) (w1 : World) : Prop := e = .returned v ∧ w = w1
def askP (d : Dk) (n : Int) : Int := if d.off = true then 6 else if n < 0 ∨ (d.l.length : Int) ≤ n then 1 else 0
def lastP (d : Dk) (n : Nat) : List UInt8 := ((d.wt.getD n []).getLast?).getD (d.l.getD n [])
theorem ask_callsF (w : World) (g : Nat) (d : Dk) (S : Nat → Prop) (hd : DKF F w g d S) (n : Int) :
    Calls Try.prog 73 #[.pointer (some ⟨g, 0, none⟩), .int .i64 n] w (Ans w (.int .i64 (askP d n))) := by
  obtain ⟨gl, cl, mb, pk, lv, mf, hd, _⟩ := hd
  have c0 : w.cell? ⟨g, 0, none⟩ = some (.slice (some ⟨gl, 0, none⟩) d.l.length cl) := hd.blk.cell 0
  have c2 : w.cell? ⟨g, 2, none⟩ = some (.bool d.off) := hd.blk.cell 2
  obtain ⟨L, hL⟩ : ∃ L, d.l.length = L := ⟨_, rfl⟩
  obtain ⟨of, hof⟩ : ∃ of, d.off = of := ⟨_, rfl⟩
  unfold askP
  rw [hL] at c0 ⊢
  rw [hof] at c2 ⊢
  clear hL hof hd
  cases of
  · rw [if_neg (by decide)]
    by_cases h1 : n < 0
    · rw [if_pos (.inl h1)]
      go_enter Try.func73, Try.ntmps73
      go_wp2
      go_ret
      exact ⟨rfl, rfl⟩
    · by_cases h2 : (L : Int) ≤ n
      · rw [if_pos (.inr h2)]
        go_enter Try.func73, Try.ntmps73
        go_wp2
        go_ret
        exact ⟨rfl, rfl⟩
      · rw [if_neg (by omega)]
        go_enter Try.func73, Try.ntmps73
        go_wp2
        go_ret
        exact ⟨rfl, rfl⟩
  · rw [if_pos rfl]
    go_enter Try.func73, Try.ntmps73
    go_wp2
    go_ret
    exact ⟨rfl, rfl⟩
theorem zero_sl (w : World) : (zeroValue 78).run Try.prog w = .ok (.slice none 0 0) w := by kernel_rfl
def DatOut (F : Nat → Prop) (w : World) (bs : List UInt8) (e : Ending) (w' : World) : Prop := (∃ r, e = .returned r ∧ RdT F 5 w r (bvs bs)) ∧ w = w'
set_option maxRecDepth 10000 in
set_option maxHeartbeats 1000000 in
theorem last_callsF (w : World) (g : Nat) (d : Dk) (S : Nat → Prop) (hd : DKF F w g d S) (n : Nat) (hn : n < d.l.length) (hl : d.l.length ≤ 16384) (hv : (d.wt.getD n []).length ≤ 1000000000) :
    Calls Try.prog 74 #[.pointer (some ⟨g, 0, none⟩), .int .i64 (n : Int)] w (DatOut F w (lastP d n)) := by
  obtain ⟨gl, cl, mb, pk, lv, mf, hd, _⟩ := hd
  have c0 : w.cell? ⟨g, 0, none⟩ = some (.slice (some ⟨gl, 0, none⟩) d.l.length cl) := hd.blk.cell 0
  have c1 : w.cell? ⟨g, 1, none⟩ = some (.map (some mb)) := hd.blk.cell 1
  have hlv := hd.lvl
  have hwt : d.wt[n]? = some (d.wt.getD n []) := by
    have : n < d.wt.length := by rw [hd.wtl]; exact hn
    rw [List.getD_eq_getElem?_getD, List.getElem?_eq_getElem this]
    rfl
  have hln : d.l[n]? = some (d.l.getD n []) := by
    rw [List.getD_eq_getElem?_getD, List.getElem?_eq_getElem hn]
    rfl
  have hlk := hd.map.run_lookup (mt := 79) (et := 78) Try.underlying3 Try.underlying79 (zero_sl w) (k := n) (by omega)
  unfold lastP
  generalize d.wt.getD n [] = vs at *
  generalize d.l.getD n [] = b0 at *
  rcases hd.ver n vs hwt with ⟨rfl, h2⟩ | ⟨h1, bb, c, us, h2, h3, h4, h5⟩
  · rw [h2] at hlk
    obtain ⟨u, hu⟩ : ∃ u, lv[n]? = some u := ⟨_, List.getElem?_eq_getElem (by omega)⟩
    have hr := Lib.hid (hd.dat n u b0 hu hln)
    have hcu := own_cell hd.row hu
    have hL := d.l.length
    generalize d.l.length = L at *
    simp only [Option.getD_none] at hlk
    clear hd h2 hwt hln hu hlv
    go_enter Try.func74, Try.ntmps74
    go_wp2
    go_ret
    exact ⟨⟨_, rfl, hr.out⟩, rfl⟩
  · rw [h2] at hlk
    have hpos : 0 < vs.length := List.length_pos_iff.2 h1
    have hul : us.length = vs.length := by simpa using h3.1
    obtain ⟨u, hu⟩ : ∃ u, us[vs.length - 1]? = some u := ⟨_, List.getElem?_eq_getElem (by omega)⟩
    obtain ⟨b, hb⟩ : ∃ b, vs[vs.length - 1]? = some b := ⟨_, List.getElem?_eq_getElem (by omega)⟩
    have hlast : vs.getLast? = some b := by rw [List.getLast?_eq_getElem?, hb]
    rw [hlast]
    have hr := Lib.hid (h5 _ u b hu hb)
    have hcu := own_cell h3 hu
    simp only [Option.getD_some] at hlk ⊢
    obtain ⟨m, hm⟩ : ∃ m, vs.length = m + 1 := ⟨vs.length - 1, by omega⟩
    rw [hm] at hlk hcu hv
    rw [Nat.add_sub_cancel] at hcu
    clear hd h2 h3 h5 hwt hln hu hlv hlast hb h1 hpos hul hm c0
    go_enter Try.func74, Try.ntmps74
    go_wp2
    go_ret
    exact ⟨⟨_, rfl, hr.out⟩, rfl⟩
end Go.Proofs.Ytefbmbfhhhjgkaa
