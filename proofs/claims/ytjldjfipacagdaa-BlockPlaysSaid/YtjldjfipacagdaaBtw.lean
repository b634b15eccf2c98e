/- BlockTwins: runs of acts; a disk and its twin in a caller's hands. -/
import Derived.Test.YtjldjfipacagdaaBsy
namespace Go.Proofs.Ytjldjfipacagdaa
open Go.RowKit
def stD (d : Dk) (l : List ActV) : Dk := l.foldl (fun d a => (doP d a).2) d
def dA : ActV := ⟨0, 0, .bool false, [], .bool false, []⟩
def anD (d : Dk) (l : List ActV) (k : Nat) : List Int := (List.range k).map fun j => (doP (stD d (l.take j)) (l.getD j dA)).1
theorem stD_succ (d : Dk) (l : List ActV) {k : Nat} (h : k < l.length) : stD d (l.take (k + 1)) = (doP (stD d (l.take k)) l[k]).2 := by
  unfold stD
  rw [List.take_succ_eq_append_getElem h, List.foldl_append]
  rfl
theorem anD_succ (d : Dk) (l : List ActV) {k : Nat} (h : k < l.length) : anD d l (k + 1) = anD d l k ++ [(doP (stD d (l.take k)) l[k]).1] := by
  unfold anD
  rw [List.range_succ, List.map_append, List.map_singleton, List.getD_eq_getElem?_getD, List.getElem?_eq_getElem h]
  rfl
theorem anD_len (d : Dk) (l : List ActV) (k : Nat) : (anD d l k).length = k := by simp [anD]
theorem anD_at (d : Dk) (l : List ActV) {k n : Nat} (h : k < l.length) (hn : k < n) : (anD d l n)[k]? = some (doP (stD d (l.take k)) l[k]).1 := by
  unfold anD
  rw [List.getElem?_map, List.getElem?_range hn]
  show some (doP (stD d (List.take k l)) (l.getD k dA)).1 = _
  rw [List.getD_eq_getElem?_getD, List.getElem?_eq_getElem h]
  rfl
theorem Rd.ownlt {w : World} {v : Value} {us : List Value} (h : Rd w v us) (hne : us ≠ []) {j : Nat} (hj : v.ownBlock = some j) : j < w.heap.size := by
  obtain ⟨A, c, rfl, _, hr⟩ := h
  obtain ⟨ad, rfl, hc⟩ := hr hne
  cases us with
  | nil => exact absurd rfl hne
  | cons u r =>
    have := World.block_lt_of_cell? w _ (hc 0 u rfl)
    rw [addr_add_block] at this
    simp [Value.ownBlock] at hj
    omega
theorem RdA.load {w : World} {A : Option Addr} {n c : Nat} {l : List ActV} (h : RdA w (.slice A n c) l) {k : Nat} (hk : k < l.length) :
    ∃ ad, A = some ad ∧ ∀ W, Below w.heap.size w W → (Instr.loadAt 43 (.pointer (some (ad.add (k * 4))))).run Try.prog W = .ok (.agg l[k].row.toArray) W := by
  obtain ⟨ad, e, hc⟩ := RdF.at_ h.1 (k := k) (by rw [List.length_map]; exact hk)
  rw [List.getElem_map] at hc
  refine ⟨ad, e, fun W hW => ?_⟩
  refine run_loadAt_cells (P := Try.prog) W (ad.add (k * 4)) 43 l[k].row _ (fun j u hu => ?_) Try.underlying43 rfl (by kernel_rfl)
  have h1 := hc j u hu
  have hlt := World.block_lt_of_cell? w _ h1
  exact (hW.cell hlt).trans h1
/-- A disk that a call made since w0, with its data's blocks. -/
structure D1 (w0 w : World) (g : Nat) (d : Dk) (S F : Nat → Prop) : Prop where
  dk : DO w g d S F
  new : ∀ k, S k → w0.heap.size ≤ k
  below : Below w0.heap.size w0 w
theorem D1.go {w0 w w' : World} {g : Nat} {d : Dk} {S F : Nat → Prop} (h : D1 w0 w g d S F) (hb : Below w.heap.size w w') : D1 w0 w' g d S F :=
  ⟨h.dk.below hb, h.new, h.below.trans (hb.mono h.below.size)⟩
theorem Below.of_chg {w0 w w' : World} {S : Nat → Prop} (hB : Below w0.heap.size w0 w) (h : Chg S w w') (hS : ∀ k, S k → w0.heap.size ≤ k) : Below w0.heap.size w0 w' :=
  hB.trans (h.below hB.size hS)
theorem D1.wrote {w0 w w' : World} {g : Nat} {d d' : Dk} {S F : Nat → Prop} (h : D1 w0 w g d S F) (hw : WroteO w S F g d' w') : ∃ S' F', D1 w0 w' g d' S' F' ∧ Chg S w w' ∧ (∀ k, S' k → S k ∨ w.heap.size ≤ k) ∧ ∀ k, F' k → F k ∨ w.heap.size ≤ k := by
  obtain ⟨S', F', h1, h2, h3, h4⟩ := hw
  refine ⟨S', F', ⟨h1, fun k hk => ?_, Below.of_chg h.below h2 h.new⟩, h2, h3, h4⟩
  rcases h3 k hk with e | e
  · exact h.new k e
  · exact Nat.le_trans h.below.size e
/-- A disk and its twin. -/
structure T2 (w0 w : World) (g : Nat) (d : Dk) (S F : Nat → Prop) (t : Nat) (d2 : Dk) (S2 F2 : Nat → Prop) : Prop where
  one : D1 w0 w g d S F
  two : D1 w0 w t d2 S2 F2
  apart : ∀ k, S k → ¬ S2 k
theorem T2.swap {w0 w : World} {g t : Nat} {d d2 : Dk} {S F S2 F2 : Nat → Prop} (h : T2 w0 w g d S F t d2 S2 F2) : T2 w0 w t d2 S2 F2 g d S F := ⟨h.two, h.one, fun k h1 h2 => h.apart k h2 h1⟩
theorem T2.go {w0 w w' : World} {g t : Nat} {d d2 : Dk} {S F S2 F2 : Nat → Prop} (h : T2 w0 w g d S F t d2 S2 F2) (hb : Below w.heap.size w w') : T2 w0 w' g d S F t d2 S2 F2 := ⟨h.one.go hb, h.two.go hb, h.apart⟩
theorem T2.wrote {w0 w w' : World} {g t : Nat} {d d2 d' : Dk} {S F S2 F2 : Nat → Prop} (h : T2 w0 w g d S F t d2 S2 F2) (hw : WroteO w S F g d' w') : ∃ S' F', T2 w0 w' g d' S' F' t d2 S2 F2 ∧ Chg S w w' ∧ ∀ k, F' k → F k ∨ w.heap.size ≤ k := by
  obtain ⟨S', F', h1, h2, h3, h4⟩ := h.one.wrote hw
  refine ⟨S', F', ⟨h1, ⟨⟨h.two.dk.dk.chg h2 (fun k hk hS => h.apart k hS hk) h.one.dk.not8 h.one.dk.noti, fun k hk => Nat.lt_of_lt_of_le (h.two.dk.fl k hk) h2.size⟩, h.two.new, h1.below⟩, fun k hk hk2 => ?_⟩, h2, h4⟩
  rcases h3 k hk with e | e
  · exact h.apart k e hk2
  · have := h.two.dk.lt hk2; omega
/-- A row of ints of the caller's own grows. -/
theorem T2.far {w0 w w' : World} {g t b : Nat} {d d2 : Dk} {S F S2 F2 : Nat → Prop} (h : T2 w0 w g d S F t d2 S2 F2) (hc : Chg (fun k => k = b) w w') (h1 : ¬ S b ∧ ¬ F b) (h2 : ¬ S2 b ∧ ¬ F2 b) (hb : w0.heap.size ≤ b) : T2 w0 w' g d S F t d2 S2 F2 :=
  ⟨⟨h.one.dk.chg hc (fun k hk e => h1.1 (e ▸ hk)) (fun k hk e => h1.2 (e ▸ hk)), h.one.new, Below.of_chg h.one.below hc (fun k e => by rw [e]; exact hb)⟩,
   ⟨h.two.dk.chg hc (fun k hk e => h2.1 (e ▸ hk)) (fun k hk e => h2.2 (e ▸ hk)), h.two.new, Below.of_chg h.one.below hc (fun k e => by rw [e]; exact hb)⟩, h.apart⟩
theorem T2.of_twin {w0 w w' : World} {g t : Nat} {d d2 : Dk} {S F S2 F2 : Nat → Prop} (h : D1 w0 w g d S F) (h2 : DO w' t d2 S2 F2) (hb : Below w.heap.size w w') (hn : ∀ k, S2 k → w.heap.size ≤ k) : T2 w0 w' g d S F t d2 S2 F2 :=
  ⟨h.go hb, ⟨h2, fun k hk => Nat.le_trans h.below.size (hn k hk), h.below.trans (hb.mono h.below.size)⟩, fun k h1 h2 => by have := h.dk.lt h1; have := hn k h2; omega⟩
end Go.Proofs.Ytjldjfipacagdaa
