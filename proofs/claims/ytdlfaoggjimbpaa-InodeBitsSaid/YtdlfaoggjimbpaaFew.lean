import Derived.Test.YtdlfaoggjimbpaaFlt
namespace Go.Proofs.Ytdlfaoggjimbpaa
open Go.RowKit
/-- A put of a writer. -/
structure Put3 where
  (kind n : Int)
  bs : List UInt8
def RdP (w : World) (v : Value) (ps : List Put3) : Prop :=
  ∃ sl : Nat → Value, RdF 3 w v ((List.range ps.length).map fun i => [.int .i64 ((ps[i]?.getD ⟨0, 0, []⟩).kind), .int .i64 ((ps[i]?.getD ⟨0, 0, []⟩).n), sl i]) ∧ ∀ i, i < ps.length → Rd w (sl i) (bvs (ps[i]?.getD ⟨0, 0, []⟩).bs)
namespace RdP
variable {w w' : World} {v : Value} {ps : List Put3}
theorem below (h : RdP w v ps) (hb : Below w.heap.size w w') : RdP w' v ps := by
  obtain ⟨sl, h1, h2⟩ := h
  exact ⟨sl, h1.below hb, fun i hi => (h2 i hi).below hb⟩
theorem shape (h : RdP w v ps) : ∃ A c, v = .slice A ps.length c := by
  obtain ⟨sl, h1, _⟩ := h
  obtain ⟨A, c, rfl⟩ := h1.shape
  exact ⟨A, c, by simp⟩
theorem at_ {A : Option Addr} {n c : Nat} (h : RdP w (.slice A n c) ps) {k : Nat} (hk : k < ps.length) :
    ∃ ad B m d, A = some ad ∧ w.cell? (ad.add (k * 3)) = some (.int .i64 ps[k].kind) ∧ w.cell? ⟨(ad.add (k * 3)).block, (ad.add (k * 3)).off + 1, none⟩ = some (.int .i64 ps[k].n) ∧
      w.cell? ⟨(ad.add (k * 3)).block, (ad.add (k * 3)).off + 2, none⟩ = some (.slice B m d) ∧ m = ps[k].bs.length ∧ Rd w (.slice B m d) (bvs ps[k].bs) := by
  obtain ⟨sl, h1, h2⟩ := h
  obtain ⟨ad, rfl, hc⟩ := h1.at_ (k := k) (by simpa using hk)
  have h3 := h2 k hk
  simp only [List.getElem_map, List.getElem_range, List.getElem?_eq_getElem hk, Option.getD_some] at hc h3
  obtain ⟨B, d, e⟩ := h3.shape8
  have q0 := hc 0 _ rfl
  have q1 := hc 1 _ rfl
  have q2 := hc 2 _ rfl
  rw [e] at q2 h3
  exact ⟨ad, B, _, d, rfl, by simpa [Addr.add] using q0, add_cell (j := 0) q1, add_cell (j := 1) q2, rfl, h3⟩
end RdP
def totP (ps : List Put3) : Nat := (ps.map fun p => p.bs.length).sum
theorem totP_succ (ps : List Put3) {k : Nat} (h : k < ps.length) : totP (ps.take (k + 1)) = totP (ps.take k) + ps[k].bs.length := by
  unfold totP
  rw [List.take_succ_eq_append_getElem h, List.map_append, List.sum_append]
  simp
def Few (ps : List Put3) : Prop := ps.length ≤ 300 ∧ (∀ k (h : k < ps.length), ps[k].bs.length ≤ 4096 ∧ (ps[k].kind = 4 → ps[k].n ≤ 4096)) ∧ totP ps ≤ 16384

def FewOut (w : World) (ps : List Put3) (e : Ending) (w' : World) : Prop := ∃ b, e = .returned (.bool b) ∧ (b = true → Few ps) ∧ w = w'
set_option maxHeartbeats 1000000 in
theorem few_calls (w : World) {x : Value} {ps : List Put3} (hx : RdP w x ps) (hl : ps.length ≤ 9223372036854775807)
    (hw : ∀ k (h : k < ps.length), ps[k].bs.length ≤ 9223372036854775807 ∧ (Lit.int .i64 ps[k].kind).wf = true ∧ (Lit.int .i64 ps[k].n).wf = true) :
    Calls Try.prog 13 #[x] w (FewOut w ps) := by
  have hx0 := hx
  obtain ⟨A, c, rfl⟩ := hx.shape
  by_cases h3 : ps.length ≤ 300
  · go_enter Try.func13, Try.ntmps13
    go_wp2
    go_loop [3, 4] (fun n i => ∃ k t : Nat, k ≤ ps.length ∧ i = .int .i64 k ∧ n = .int .i64 t ∧ t ≤ 4096 * k ∧ Hid (t = totP (ps.take k)) ∧ Hid (∀ j (h : j < ps.length), j < k → ps[j].bs.length ≤ 4096 ∧ (ps[j].kind = 4 → ps[j].n ≤ 4096))) (fun _ i => ps.length - (intOf i).toNat)
    case atStart => exact ⟨0, 0, Nat.zero_le _, rfl, rfl, by omega, rfl, fun j _ h => by omega⟩
    case round =>
      obtain ⟨k, t, hk, rfl, rfl, ht, hT, hA⟩ := hrel
      by_cases hlt : k < ps.length
      · obtain ⟨ad, B, m, d, rfl, c0, c1, c2, hm, hr⟩ := hx0.at_ hlt
        obtain ⟨w0, w1, w2⟩ := hw k hlt
        have b1 := wf64 w1
        have b2 := wf64 w2
        have hs := totP_succ ps hlt
        rw [← hT.out, ← hm] at hs
        have hS := Lib.hid hs
        have hN : Hid (m ≤ 4096 → (ps[k].kind = 4 → ps[k].n ≤ 4096) → ∀ j (h : j < ps.length), j < k + 1 → ps[j].bs.length ≤ 4096 ∧ (ps[j].kind = 4 → ps[j].n ≤ 4096)) := by
          intro h1 h2 j hj hjk
          rcases Nat.lt_or_eq_of_le (Nat.lt_succ_iff.1 hjk) with h | rfl
          · exact hA.out j hj h
          · exact ⟨by rw [← hm]; exact h1, h2⟩
        rw [← hm] at w0
        clear hs hT hA hr hm w1 w2
        generalize ps[k].kind = kd at *
        generalize ps[k].n = kn at *
        by_cases h4 : m ≤ 4096
        · by_cases hk4 : (kd == 4) = true
          · by_cases hn : kn ≤ 4096
            · go_wp2
              go_round
              case rel => exact ⟨k + 1, t + m, by omega, rfl, by simp, by omega, hS.out.symm, hN.out h4 (fun _ => hn)⟩
              case measure => simp [intOf]; omega
            · go_wp2
              go_ret
              exact ⟨_, rfl, fun h => by (cases h), rfl⟩
          · have hk4 : (kd == 4) = false := by simpa using hk4
            have hk5 : ¬ kd = 4 := by simpa using hk4
            have hN2 := Lib.hid (hN.out h4 (fun h => absurd h hk5))
            clear hk5
            go_wp2
            go_round
            case rel => exact ⟨k + 1, t + m, by omega, rfl, by simp, by omega, hS.out.symm, hN2.out⟩
            case measure => simp [intOf]; omega
        · go_wp2
          go_ret
          exact ⟨_, rfl, fun h => by (cases h), rfl⟩
      · have hk2 : Hid (k = ps.length) := by show _ = _; omega
        go_wp2
        go_ret
        refine ⟨_, rfl, fun h => ?_, rfl⟩
        have hk := hk2.out
        subst hk
        have h5 := hT.out
        rw [List.take_length] at h5
        refine ⟨h3, fun j hj => hA.out j hj hj, ?_⟩
        have : (t : Int) ≤ 16384 := by simpa using h
        omega
  · go_enter Try.func13, Try.ntmps13
    go_wp2
    go_ret
    exact ⟨_, rfl, fun h => by (cases h), rfl⟩
end Go.Proofs.Ytdlfaoggjimbpaa
