/- Disks in a caller's hands; the law's known case. -/
import Derived.Test.YtjldjfipacagdaaBh
namespace Go.Proofs.Ytjldjfipacagdaa
open Go.RowKit
/-- A disk that a call made since w0. -/
structure St (w0 w : World) (g : Nat) (d : Dk) (S : Nat → Prop) : Prop where
  dk : DK w g d S
  new : ∀ k, S k → w0.heap.size ≤ k
  below : Below w0.heap.size w0 w
theorem St.made {w0 w w' : World} {g : Nat} {d : Dk} {S : Nat → Prop} (hB : Below w0.heap.size w0 w) (h : DK w' g d S) (hb : Below w.heap.size w w') (hn : ∀ k, S k → w.heap.size ≤ k) : St w0 w' g d S :=
  ⟨h, fun k hk => Nat.le_trans hB.size (hn k hk), hB.trans (hb.mono hB.size)⟩
theorem St.go {w0 w w' : World} {g : Nat} {d : Dk} {S : Nat → Prop} (h : St w0 w g d S) (hb : Below w.heap.size w w') : St w0 w' g d S :=
  ⟨h.dk.below hb, h.new, h.below.trans (hb.mono h.below.size)⟩
theorem St.wrote {w0 w w' : World} {g : Nat} {d d' : Dk} {S : Nat → Prop} (h : St w0 w g d S) (hw : Wrote w S g d' w') : ∃ S', St w0 w' g d' S' ∧ Chg S w w' ∧ ∀ k, S' k → S k ∨ w.heap.size ≤ k := by
  obtain ⟨S', h1, h2, h3⟩ := hw
  refine ⟨S', ⟨h1, fun k hk => ?_, ?_⟩, h2, h3⟩
  · rcases h3 k hk with e | e
    · exact h.new k e
    · exact Nat.le_trans h.below.size e
  · exact ⟨h2.os.trans h.below.os, h2.tape.trans h.below.tape, h2.output.trans h.below.output, Nat.le_trans h.below.size h2.size, fun k hk => (h2.block k (Nat.lt_of_lt_of_le hk h.below.size) (fun hS => by have := h.new k hS; omega)).trans (h.below.block k hk)⟩
/-- Two disks apart. -/
structure St2 (w0 w : World) (g : Nat) (d : Dk) (S : Nat → Prop) (g2 : Nat) (d2 : Dk) (S2 : Nat → Prop) : Prop where
  one : St w0 w g d S
  two : St w0 w g2 d2 S2
  apart : ∀ k, S k → ¬ S2 k
theorem St2.swap {w0 w : World} {g g2 : Nat} {d d2 : Dk} {S S2 : Nat → Prop} (h : St2 w0 w g d S g2 d2 S2) : St2 w0 w g2 d2 S2 g d S := ⟨h.two, h.one, fun k h1 h2 => h.apart k h2 h1⟩
theorem St2.go {w0 w w' : World} {g g2 : Nat} {d d2 : Dk} {S S2 : Nat → Prop} (h : St2 w0 w g d S g2 d2 S2) (hb : Below w.heap.size w w') : St2 w0 w' g d S g2 d2 S2 := ⟨h.one.go hb, h.two.go hb, h.apart⟩
theorem St2.wrote {w0 w w' : World} {g g2 : Nat} {d d2 d' : Dk} {S S2 : Nat → Prop} (h : St2 w0 w g d S g2 d2 S2) (hw : Wrote w S g d' w') : ∃ S', St2 w0 w' g d' S' g2 d2 S2 ∧ Chg S w w' := by
  obtain ⟨S', h1, h2, h3⟩ := h.one.wrote hw
  refine ⟨S', ⟨h1, ⟨h.two.dk.chg h2 (fun k hk hS => h.apart k hS hk) h.one.dk.not8 h.one.dk.noti, h.two.new, h1.below⟩, fun k hk hk2 => ?_⟩, h2⟩
  rcases h3 k hk with e | e
  · exact h.apart k e hk2
  · have := h.two.dk.lt hk2; omega
theorem St2.twin {w0 w w' : World} {g g2 : Nat} {d d2 : Dk} {S S2 : Nat → Prop} (h : St w0 w g d S) (h2 : DK w' g2 d2 S2) (hb : Below w.heap.size w w') (hn : ∀ k, S2 k → w.heap.size ≤ k) : St2 w0 w' g d S g2 d2 S2 :=
  ⟨h.go hb, St.made h.below h2 hb hn, fun k h1 h2 => by have := h.dk.lt h1; have := hn k h2; omega⟩
theorem St.not8 {w0 w : World} {g : Nat} {d : Dk} {S : Nat → Prop} (h : St w0 w g d S) {x : Value} {bs : List UInt8} (hx : Own8 w x bs) : ∀ k, x.ownBlock = some k → ¬ S k := fun k hk => by
  rcases hx.2 with ⟨rfl, _⟩ | ⟨g', cap, cur, rfl, _, hg, _⟩
  · simp [Value.ownBlock] at hk
  · have e : g' = k := by simpa [Value.ownBlock] using hk
    subst e
    exact h.dk.not8 _ _ hg
theorem Own8.still {w w' : World} {v : Value} {xs : List UInt8} (h : Own8 w v xs) (hb : Below w.heap.size w w') : Own8 w' v xs :=
  World.ownsRow.kept (row := none) h ⟨hb.os, hb.tape, hb.output, hb.size, fun k hk _ => hb.block k hk⟩ (by cases v.ownBlock <;> simp)
/- The states of the known case. -/
def kn0 : Dk := newD 2
def kn1 (A : List UInt8) : Dk := ⟨[zblk, zblk], [[], [A]], false, wrap64 (0 + 1), 0, []⟩
def kn2 (A : List UInt8) : Dk := ⟨[zblk, A], [[], []], false, wrap64 (0 + 1), 0, []⟩
def kn3 (A B : List UInt8) : Dk := ⟨[zblk, A], [[], [B]], false, wrap64 (wrap64 (0 + 1) + 1), 0, []⟩
def kn4 (A B C : List UInt8) : Dk := ⟨[zblk, A], [[], [B, C]], false, wrap64 (wrap64 (wrap64 (0 + 1) + 1) + 1), 0, []⟩
def kn5 (A : List UInt8) : Dk := ⟨[zblk, A], [[], []], true, wrap64 (wrap64 (wrap64 (0 + 1) + 1) + 1), 0, []⟩
def kn6 (A : List UInt8) : Dk := ⟨[zblk, A], [[], []], false, wrap64 (wrap64 (wrap64 (0 + 1) + 1) + 1), 0, []⟩
theorem writeP_ok {d : Dk} {n : Int} {b : List UInt8} (h0 : askP d n = 0) (h1 : b.length = 512) (h2 : ¬ 0 < d.arm) : writeP d n b = (0, addD d n.toNat b) := by
  unfold writeP
  rw [if_neg (by simp [h0]), if_neg (by simp [h1]), if_neg (by omega), if_neg h2]
  rfl
theorem kn_w1 (A : List UInt8) (h : A.length = 512) : writeP kn0 1 A = (0, kn1 A) := writeP_ok rfl h (by decide)
theorem kn_s (A : List UInt8) : syncD (kn1 A) = kn2 A := by rfl
theorem kn_w2 (A B : List UInt8) (h : B.length = 512) : writeP (kn2 A) 1 B = (0, kn3 A B) := writeP_ok rfl h (show ¬ (0 : Int) < 0 by decide)
theorem kn_w3 (A B C : List UInt8) (h : C.length = 512) : writeP (kn3 A B) 1 C = (0, kn4 A B C) := writeP_ok rfl h (show ¬ (0 : Int) < 0 by decide)
theorem kn_c1 (A B C : List UInt8) : cutD (kn4 A B C) [1] = kn5 B := by kernel_rfl
theorem kn_c0 (A B C : List UInt8) : cutD (kn4 A B C) [0] = kn5 A := by kernel_rfl
theorem kn_o (A : List UInt8) : onD (kn5 A) = kn6 A := by rfl
end Go.Proofs.Ytjldjfipacagdaa
