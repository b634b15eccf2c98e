/- Acts of a cache's play that came in; are they few? -/
import Derived.Test.YtfapehgjiglflaaStr
import Derived.Test.YtfapehgjiglflaaCow
namespace Go.Proofs.Ytfapehgjiglflaa
open Go.RowKit
structure ActV where
  op : Int
  n : Int
  bv : Value
  b : List UInt8
  pv : Value
  p : List Int
def ActV.row (a : ActV) : List Value := [.int .i64 a.op, .int .i64 a.n, a.bv, a.pv]
def ActV.ok (w : World) (a : ActV) : Prop := Rd w a.bv (bvs a.b) ∧ Rd w a.pv (ivs a.p) ∧ a.b.length ≤ 9223372036854775807 ∧ a.p.length ≤ 9223372036854775807 ∧ (Lit.int .i64 a.op).wf = true ∧ (Lit.int .i64 a.n).wf = true
def RdA (w : World) (x : Value) (l : List ActV) : Prop := RdF 4 w x (l.map ActV.row) ∧ ∀ a ∈ l, a.ok w
theorem ActV.ok.below {w w' : World} {a : ActV} (h : a.ok w) (hb : Below w.heap.size w w') : a.ok w' := ⟨h.1.below hb, h.2.1.below hb, h.2.2⟩
theorem RdA.below {w w' : World} {x : Value} {l : List ActV} (h : RdA w x l) (hb : Below w.heap.size w w') : RdA w' x l := ⟨h.1.below hb, fun a ha => (h.2 a ha).below hb⟩
theorem RdA.shape {w : World} {x : Value} {l : List ActV} (h : RdA w x l) : ∃ A c, x = .slice A l.length c := by
  obtain ⟨A, c, e⟩ := RdF.shape h.1
  rw [List.length_map] at e
  exact ⟨A, c, e⟩
theorem add_cellA {w : World} {ad : Addr} {j : Nat} {u : Value} (h : w.cell? (ad.add (j + 1)) = some u) : w.cell? ⟨ad.block, ad.off + (j + 1), none⟩ = some u := by
  unfold Addr.add at h
  rw [if_neg (by omega)] at h
  exact h
theorem RdA.at_ {w : World} {A : Option Addr} {n c : Nat} {l : List ActV} (h : RdA w (.slice A n c) l) {k : Nat} (hk : k < l.length) :
    ∃ ad, A = some ad ∧ w.cell? (ad.add (k * 4)) = some (.int .i64 l[k].op) ∧ w.cell? ⟨(ad.add (k * 4)).block, (ad.add (k * 4)).off + 1, none⟩ = some (.int .i64 l[k].n) ∧
      w.cell? ⟨(ad.add (k * 4)).block, (ad.add (k * 4)).off + 2, none⟩ = some l[k].bv ∧ w.cell? ⟨(ad.add (k * 4)).block, (ad.add (k * 4)).off + 3, none⟩ = some l[k].pv := by
  obtain ⟨ad, e, hc⟩ := RdF.at_ h.1 (k := k) (by rw [List.length_map]; exact hk)
  rw [List.getElem_map] at hc
  refine ⟨ad, e, ?_, add_cellA (j := 0) (hc 1 _ rfl), add_cellA (j := 1) (hc 2 _ rfl), add_cellA (j := 2) (hc 3 _ rfl)⟩
  have := hc 0 _ rfl
  simpa [addr_add_add] using this
def ActV.few (a : ActV) : Bool := decide (a.b.length ≤ 512) && decide (a.p.length ≤ 50)
def fewB (l : List ActV) : Bool := decide (l.length ≤ 150) && l.all ActV.few
theorem fewB_no {l : List ActV} {k : Nat} (hk : k < l.length) (h : l[k].few = false) : fewB l = false := by
  unfold fewB
  rw [Bool.and_eq_false_iff]
  exact .inr (List.all_eq_false.2 ⟨l[k], List.getElem_mem hk, by simp [h]⟩)
theorem fewB_at {l : List ActV} (h : fewB l = true) {k : Nat} (hk : k < l.length) : l[k].b.length ≤ 512 ∧ l[k].p.length ≤ 50 := by
  unfold fewB at h
  simp only [Bool.and_eq_true, List.all_eq_true, decide_eq_true_eq] at h
  have := h.2 _ (List.getElem_mem hk)
  unfold ActV.few at this
  simpa using this
theorem fewB_len {l : List ActV} (h : fewB l = true) : l.length ≤ 150 := by
  unfold fewB at h
  simp only [Bool.and_eq_true, decide_eq_true_eq] at h
  exact h.1
set_option maxRecDepth 10000 in
set_option maxHeartbeats 2000000 in
theorem Few_calls (w : World) (x : Value) (l : List ActV) (hx : RdA w x l) (hl : l.length ≤ 9223372036854775807) : Calls Try.prog 22 #[x] w (Ans w (.bool (fewB l))) := by
  have hx0 := Lib.hid hx
  obtain ⟨A, c, rfl⟩ := hx.shape
  clear hx
  by_cases h150 : 150 < l.length
  · have e : fewB l = false := by unfold fewB; rw [decide_eq_false (by omega)]; rfl
    rw [e]
    clear e
    generalize l.length = n at *
    go_enter Try.func22, Try.ntmps22
    go_wp2
    go_ret
    exact ⟨rfl, rfl⟩
  · have hno := Lib.hid (fun k (hk : k < l.length) (h : l[k].few = false) => fewB_no hk h)
    have hyes : Hid ((∀ k (hk : k < l.length), l[k].few = true) → fewB l = true) := fun h => by
      unfold fewB
      rw [decide_eq_true (by omega), Bool.true_and, List.all_eq_true]
      intro a ha
      obtain ⟨k, hk, rfl⟩ := List.getElem_of_mem ha
      exact h k hk
    go_enter Try.func22, Try.ntmps22
    go_wp2
    go_loop [3] (fun i => ∃ k : Nat, k ≤ l.length ∧ i = .int .i64 k ∧ Hid (∀ j (hj : j < l.length), j < k → l[j].few = true)) (fun i => l.length - (RowKit.intOf i).toNat)
    case atStart => exact ⟨0, Nat.zero_le _, rfl, fun j _ h => by omega⟩
    case round =>
      obtain ⟨k, hk, rfl, hA⟩ := hrel
      by_cases hlt : k < l.length
      · obtain ⟨ad, rfl, d0, d1, d2, d3⟩ := hx0.out.at_ hlt
        obtain ⟨hb, hp, hbl, hpl, _⟩ := hx0.out.2 _ (List.getElem_mem hlt)
        have hnok := Lib.hid (hno.out k hlt)
        have hstep : Hid (l[k].few = true → ∀ j (hj : j < l.length), j < k + 1 → l[j].few = true) := by
          intro h j hj hjk
          rcases Nat.lt_or_eq_of_le (Nat.lt_succ_iff.1 hjk) with h5 | rfl
          · exact hA.out j hj h5
          · exact h
        obtain ⟨A1, c1, e1⟩ := hb.shape8
        obtain ⟨A2, c2, e2⟩ := hp.shapeI
        rw [e1] at d2
        rw [e2, show (ivs l[k].p).length = l[k].p.length by simp [ivs]] at d3
        have hfew : l[k].few = (decide (l[k].b.length ≤ 512) && decide (l[k].p.length ≤ 50)) := rfl
        rw [hfew] at hnok hstep
        clear e1 e2 hb hp hA hfew
        generalize l[k].b.length = n1 at *
        generalize l[k].p.length = n2 at *
        rcases (show 512 < n1 ∨ (n1 ≤ 512 ∧ 50 < n2) ∨ (n1 ≤ 512 ∧ n2 ≤ 50) by omega) with q1 | ⟨q1, q2⟩ | ⟨q1, q2⟩
        · have hb2 := Lib.hid (hnok.out (by simp; omega))
          clear hnok hstep
          go_wp2
          go_ret
          rw [hb2.out]
          exact ⟨rfl, rfl⟩
        · have hb2 := Lib.hid (hnok.out (by simp; omega))
          clear hnok hstep
          go_wp2
          go_ret
          rw [hb2.out]
          exact ⟨rfl, rfl⟩
        · have hb2 := Lib.hid (hstep.out (by simp; omega))
          clear hnok hstep
          go_wp2
          go_round
          case rel => exact ⟨k + 1, by omega, by go_num, hb2⟩
          case measure => simp [RowKit.intOf]; omega
      · have hE : Hid (fewB l = true) := hyes.out (fun j hj => hA.out j hj (by omega))
        go_wp2
        go_ret
        rw [hE.out]
        exact ⟨rfl, rfl⟩
end Go.Proofs.Ytfapehgjiglflaa
