import Derived.Test.YtdlfaoggjimbpaaKn1
import Derived.Test.YtdlfaoggjimbpaaStr
import Derived.Deep.QuietTactic
import Derived.BigQuiet
namespace Go.Proofs.Ytdlfaoggjimbpaa
open Go.RowKit
/-- An ask of a reader: its kind, its number. -/
structure Ask2 where
  (kind n : Int)
def Ask2.row (x : Ask2) : List Value := [.int .i64 x.kind, .int .i64 x.n]
def Ask2.ok (x : Ask2) : Prop := (Lit.int .i64 x.kind).wf = true ∧ (Lit.int .i64 x.n).wf = true

theorem quiet_here {P : Program} {f : FuncId} {args : Array Value} {w : World} {n : Nat} {v : Value} (h : ∀ n, Hid (Calls P f args (w.drewN n) fun e w' => e = .returned v ∧ w.drewN n = w')) :
    Calls P f args (w.drewN n) fun e w'' => e = .returned v ∧ ∃ m, w'' = w.drewN m := (h n).out.mono fun _ _ ⟨he, hm⟩ => ⟨he, n, hm.symm⟩
theorem add_cell {w : World} {ad : Addr} {j : Nat} {v : Value} (h : w.cell? (ad.add (j + 1)) = some v) : w.cell? ⟨ad.block, ad.off + (j + 1), none⟩ = some v := by simpa [Addr.add] using h
theorem Rdr.drewN {w : World} {g : Nat} {b : Value} {rs : List UInt8} {err : Int} (h : Rdr w g b rs err) (n : Nat) : Rdr (w.drewN n) g b rs err := ⟨h.blk.drewN n, h.rd.drewN n, h.ne⟩
theorem below_drewN {B : Nat} {w w' : World} (h : Below B w w') (n : Nat) : Below B w (w'.drewN n) := ⟨h.os, h.tape, h.output, h.size, h.block⟩
theorem takeP_err (rs : List UInt8) (err n : Int) (h : err ≠ 0) : takeP rs err n = ([], rs, err) := by unfold takeP; rw [if_pos h]
theorem bytesP_err (rs : List UInt8) (err n : Int) (h : err ≠ 0) : bytesP rs err n = ([], rs, err) := by
  unfold bytesP
  rw [takeP_err rs err 4 h]
  simp only [h, false_and, if_false]
  exact takeP_err rs err _ h

set_option maxRecDepth 100000 in
set_option maxHeartbeats 2000000 in
theorem CodecFaults_calls (w : World) {x y : Value} {bs : List UInt8} {n : Int} {asks : List Ask2} (xx0 : Rd w x (bvs bs)) (ll0 : bs.length ≤ 9223372036854775807) (ww1 : (Lit.int .i64 n).wf = true)
    (xx2 : RdF 2 w y (asks.map Ask2.row)) (ll2 : asks.length ≤ 9223372036854775807) (ww2 : ∀ a ∈ asks, a.ok) :
    Calls Try.prog 6 #[x, .int .i64 n, y] w fun e w' => e = .returned (.bool true) ∧ Below w.heap.size w w' := by
  obtain ⟨n1, n2⟩ := wf64 ww1
  have hx0 := xx0
  have hy0 := xx2
  obtain ⟨A, c, rfl⟩ := xx0.shape8
  obtain ⟨B, d, rfl⟩ := xx2.shape
  rw [List.length_map] at xx2 hy0 ⊢
  by_cases hg : bs.length ≤ 4096 ∧ asks.length ≤ 300 ∧ 0 ≤ n ∧ n ≤ 8192
  · obtain ⟨g0, g1, g2, g3⟩ := hg
    obtain ⟨m, rfl⟩ := Int.eq_ofNat_of_zero_le g2
    have hcap : bs.length ≤ c := by
      obtain ⟨_, _, e, hl, _⟩ := hx0
      injection e with _ _ e
      subst e
      rwa [bvs_length] at hl
    go_enter Try.func6, Try.ntmps6
    go_wp2_with fail
    refine (known_calls w).mono ?_
    rintro e w1 ⟨rfl, hB1⟩
    have hx1 := hx0.below hB1
    go_wp2_with fail
    refine (NewReader_calls w1 _ _ hx1 (by omega)).mono ?_
    rintro e w2 ⟨g, b2, rfl, hgn, h2, hB2, hb2⟩
    have hB2 : Below w.heap.size w w2 := hB1.trans (hB2.mono hB1.size)
    have hgn' : w.heap.size ≤ g := Nat.le_trans hB1.size hgn
    clear hx1 hgn hb2 hB1
    by_cases hm : m ≤ bs.length
    · have ht : takeP bs 0 (m : Int) = (bs.take m, bs.drop m, 0) := by unfold takeP; rw [if_neg (by decide), if_neg (by omega), if_neg (by omega), Int.toNat_natCast]
      go_wp2_with fail
      refine (RFixed_calls w2 g b2 _ 0 m h2 (by omega)).mono ?_
      intro e w3 k
      obtain ⟨r, b3, rfl, k3, h3, hc3, hr3, _⟩ := k.cast ht
      have hB3 : Below w.heap.size w w3 := hB2.trans (hc3.below hB2.size (fun k hk => by rw [hk]; exact hgn'))
      have hx3 := hx0.below hB3
      have hx4 : Rd w3 (.slice A m c) (bvs (bs.take m)) := by
        obtain ⟨A', c', e, hl, hr⟩ := hx3
        injection e with e1 e2 e3
        subst e1 e3
        refine ⟨A, c, by rw [bvs_length, List.length_take, Nat.min_eq_left hm], by rw [bvs_length, List.length_take]; omega, fun hne => ?_⟩
        obtain ⟨ad, rfl, hc⟩ := hr (by intro e; apply hne; unfold bvs at e ⊢; rw [List.map_take, e, List.take_nil])
        refine ⟨ad, rfl, fun j u hu => hc j u ?_⟩
        unfold bvs at hu ⊢
        rw [List.map_take, List.getElem?_take] at hu
        split at hu
        · exact hu
        · cases hu
      have S1 := Lib.hid (fun n => run_str (P := Try.prog) (w3.drewN n) 28 9 5 r _ Try.underlying28 Try.underlying5 Try.underlying9 ((Rd.of_own k3).drewN n))
      have S2 := Lib.hid (fun n => run_str (P := Try.prog) (w3.drewN n) 28 9 5 _ _ Try.underlying28 Try.underlying5 Try.underlying9 (hx4.drewN n))
      unfold str at S1 S2
      have HE := fun n => Lib.hid (REnd_calls (w3.drewN n) g b3 _ 0 (h3.drewN n))
      have hmc : m ≤ c := by omega
      have hBn := fun n => below_drewN hB3 n
      obtain ⟨en, hen, hq⟩ : ∃ en : Int, endP (bs.drop m) 0 = en ∧ ((en == 0) = true ∧ ((m : Int) == (bs.length : Int)) = true ∨ (en == 0) = false ∧ ((m : Int) == (bs.length : Int)) = false) := by
        refine ⟨_, rfl, ?_⟩
        by_cases he : m = bs.length
        · left
          subst he
          simp [endP]
        · right
          have hne : bs.drop m ≠ [] := by intro e; have := congrArg List.length e; rw [List.length_drop] at this; simp at this; omega
          simp [endP, hne]
          omega
      rw [hen] at HE
      clear hen k h3 hx3 hx4 k3 ht hr3 hc3 h2
      generalize bs.take m = us at *
      rcases hq with ⟨q1, q2⟩ | ⟨q1, q2⟩
      all_goals
        go_wp2_with fail
        have s1 := S1.out
        have s2 := S2.out
        go_quiet (first | exact quiet_here HE)
        clear s1 s2 S1 S2
        go_wp2
        go_ret
        exact ⟨rfl, hBn _⟩
    · have ht : takeP bs 0 (m : Int) = ([], bs, 2) := by unfold takeP; rw [if_neg (by decide), if_neg (by omega), if_pos (by omega)]
      go_wp2_with fail
      refine (RFixed_calls w2 g b2 _ 0 m h2 (by omega)).mono ?_
      intro e w3 k
      obtain ⟨r, b3, rfl, k3, h3, hc3, hr3, _⟩ := k.cast ht
      have hB3 : Below w.heap.size w w3 := hB2.trans (hc3.below hB2.size (fun k hk => by rw [hk]; exact hgn'))
      obtain ⟨A3, c3, rfl⟩ := k3.shape
      clear k k3 ht hr3 hc3 h2 hB2
      go_wp2_with fail
      go_loopw [9] (fun i wr => ∃ (k : Nat) (b : Value), k ≤ asks.length ∧ i = .int .i64 k ∧ Hid (Rdr wr g b bs 2) ∧ Below w.heap.size w wr) (fun i _ => asks.length - (intOf i).toNat)
      case atStart => exact ⟨0, b3, Nat.zero_le _, rfl, h3, hB3⟩
      case round =>
        obtain ⟨k, b, hk, rfl, hR, hBr⟩ := hrel
        clear hB3 h3
        by_cases hlt : k < asks.length
        · have hok := ww2 _ (List.getElem_mem hlt)
          have hcell : ∀ W, Below w.heap.size w W → ∃ ad, B = some ad ∧ W.cell? ⟨(ad.add (k * 2)).block, (ad.add (k * 2)).off + 1, none⟩ = some (.int .i64 (asks[k]).n) := by
            intro W hW
            obtain ⟨ad, e, hc⟩ := (hy0.below hW).at_ (k := k) (by rw [List.length_map]; exact hlt)
            rw [List.getElem_map] at hc
            exact ⟨ad, e, add_cell (j := 0) (hc 1 _ rfl)⟩
          obtain ⟨a1, a2⟩ := wf64 hok.2
          generalize (asks[k]).n = an at *
          clear hok
          have hcell := Lib.hid hcell
          go_wp2_with fail
          refine (RU8_calls wr g b _ 2 hR.out (by omega)).mono ?_
          intro e w4 kk
          obtain ⟨b4, rfl, h4, hc4, _⟩ := kk.cast (takeP_err bs 2 1 (by decide)) (n := 0) rfl
          have hB4 : Below w.heap.size w w4 := hBr.trans (hc4.below hBr.size (fun k hk => by rw [hk]; exact hgn'))
          clear kk hR hBr
          go_wp2_with fail
          refine (RU16_calls w4 g b4 _ 2 h4 (by omega)).mono ?_
          intro e w5 kk
          obtain ⟨b5, rfl, h5, hc5, _⟩ := kk.cast (takeP_err bs 2 2 (by decide)) (n := 0) rfl
          have hB5 : Below w.heap.size w w5 := hB4.trans (hc5.below hB4.size (fun k hk => by rw [hk]; exact hgn'))
          clear kk h4 hB4
          go_wp2_with fail
          refine (RU32_calls w5 g b5 _ 2 h5 (by omega)).mono ?_
          intro e w6 kk
          obtain ⟨b6, rfl, h6, hc6, _⟩ := kk.cast (takeP_err bs 2 4 (by decide)) (n := 0) rfl
          have hB6 : Below w.heap.size w w6 := hB5.trans (hc6.below hB5.size (fun k hk => by rw [hk]; exact hgn'))
          clear kk h5 hB5
          obtain ⟨ad, rfl, c6⟩ := hcell.out w6 hB6
          go_wp2_with fail
          refine (RFixed_calls w6 g b6 _ 2 an h6 (by omega)).mono ?_
          intro e w7 kk
          obtain ⟨r7, b7, rfl, k7, h7, hc7, _, _⟩ := kk.cast (takeP_err bs 2 an (by decide))
          have hB7 : Below w.heap.size w w7 := hB6.trans (hc7.below hB6.size (fun k hk => by rw [hk]; exact hgn'))
          obtain ⟨A7, e7, rfl⟩ := k7.shape
          clear kk h6 hB6 c6
          obtain ⟨ad', e', c7⟩ := hcell.out w7 hB7
          cases e'
          go_wp2_with fail
          refine (RBytes_calls w7 g b7 _ 2 an h7 (by omega)).mono ?_
          intro e w8 kk
          obtain ⟨r8, b8, rfl, k8, h8, hc8, _, _⟩ := kk.cast (bytesP_err bs 2 an (by decide))
          have hB8 : Below w.heap.size w w8 := hB7.trans (hc8.below hB7.size (fun k hk => by rw [hk]; exact hgn'))
          obtain ⟨A8, e8, rfl⟩ := k8.shape
          clear kk h7 hB7 c7
          go_wp2
          go_roundw
          case rel => exact ⟨k + 1, b8, by omega, rfl, h8, hB8⟩
          case measure => simp [intOf]; omega
        · go_wp2_with fail
          refine (REnd_calls wr g b _ 2 hR.out).mono ?_
          rintro e w4 ⟨rfl, rfl⟩
          rw [show endP bs 2 = 2 by simp [endP]]
          go_wp2
          go_ret
          exact ⟨rfl, hBr⟩
  · have hc : 4096 < bs.length ∨ (bs.length ≤ 4096 ∧ 300 < asks.length) ∨ (bs.length ≤ 4096 ∧ asks.length ≤ 300 ∧ n < 0) ∨ (bs.length ≤ 4096 ∧ asks.length ≤ 300 ∧ 0 ≤ n ∧ 8192 < n) := by omega
    clear hg
    rcases hc with hc | ⟨c1, c2⟩ | ⟨c1, c2, c3⟩ | ⟨c1, c2, c3, c4⟩
    all_goals
      go_enter Try.func6, Try.ntmps6
      go_wp2_with fail
      refine (known_calls w).mono ?_
      rintro e w1 ⟨rfl, hB1⟩
      go_wp2
      go_ret
      exact ⟨rfl, hB1⟩
end Go.Proofs.Ytdlfaoggjimbpaa
