import Derived.Test.YtoloogpglnonaaaRre
import Derived.Deep.CutBlock
namespace Go.Proofs.Ytoloogpglnonaaa
open Go.RowKit
/-- The program's reader and the document's, side by side. -/
structure PR (B : Nat) (w : World) (g q : Nat) (b u : Value) (bs : List UInt8) (p : Nat) (err : Int) : Prop where
  a : Rdr w g b (bs.drop p) err
  r : RRd w q u bs p err
  ne : g ≠ q
  nb : b.ownBlock ≠ some q
  nu : bs ≠ [] → u.ownBlock ≠ some g
  ga : B ≤ g
  gq : B ≤ q
structure PRm (B : Nat) (w : World) (g q : Nat) (b u : Value) (bs : List UInt8) (p : Nat) (err : Int) (rs : List UInt8) (err2 : Int) : Prop where
  a : Rdr w g b rs err2
  r : RRd w q u bs p err
  ne : g ≠ q
  nb : b.ownBlock ≠ some q
  nu : bs ≠ [] → u.ownBlock ≠ some g
  ga : B ≤ g
  gq : B ≤ q
theorem PR.drewN {B : Nat} {w : World} {g q : Nat} {b u : Value} {bs : List UInt8} {p : Nat} {err : Int} (h : PR B w g q b u bs p err) (n : Nat) : PR B (w.drewN n) g q b u bs p err := ⟨h.a.drewN n, h.r.drewN n, h.ne, h.nb, h.nu, h.ga, h.gq⟩
theorem PR.num1 {w0 w w' : World} {g q : Nat} {b u : Value} {bs : List UInt8} {p : Nat} {err : Int} {o : List UInt8 × List UInt8 × Int} {e : Ending} (h : PR w0.heap.size w g q b u bs p err) (hB : Below w0.heap.size w0 w) (k : NumOut w g b o e w') :
    e = .returned (.int .i64 (numP o.1)) ∧ ∃ b', PRm w0.heap.size w' g q b' u bs p err o.2.1 o.2.2 ∧ Below w0.heap.size w0 w' := by
  obtain ⟨b', rfl, h1, h2, h3⟩ := k
  exact ⟨rfl, b', ⟨h1, h.r.chg h2 (fun e => h.ne e.symm) (fun hne k hk e => h.nu hne (by rw [hk, e])), h.ne, by rw [h3]; exact h.nb, h.nu, h.ga, h.gq⟩, hB.trans (h2.below hB.size (fun k hk => by rw [hk]; exact h.ga))⟩
theorem PRm.num2 {w0 w w' : World} {g q : Nat} {b u : Value} {bs : List UInt8} {p : Nat} {err : Int} {o : List UInt8 × List UInt8 × Int} {e : Ending} (h : PRm w0.heap.size w g q b u bs p err o.2.1 o.2.2) (hB : Below w0.heap.size w0 w) (k : RNumOut w q u bs o e w') :
    e = .returned (.int .i64 (numP o.1)) ∧ ∃ p', PR w0.heap.size w' g q b u bs p' o.2.2 ∧ Below w0.heap.size w0 w' := by
  obtain ⟨rfl, p', h1, h2, h3⟩ := k
  refine ⟨rfl, p', ⟨?_, h1, h.ne, h.nb, h.nu, h.ga, h.gq⟩, hB.trans (h3.below hB.size (fun k hk => by rw [hk]; exact h.gq))⟩
  rw [h2]
  exact h.a.chg h3 h.ne (fun k hk e => h.nb (by rw [hk, e]))
theorem PR.fix1 {w0 w w' : World} {g q : Nat} {b u : Value} {bs : List UInt8} {p : Nat} {err : Int} {o : List UInt8 × List UInt8 × Int} {e : Ending} (h : PR w0.heap.size w g q b u bs p err) (hB : Below w0.heap.size w0 w) (k : FixOut w g b o e w') :
    ∃ out b', e = .returned out ∧ Own8 w' out o.1 ∧ out.ownBlock ≠ some q ∧ PRm w0.heap.size w' g q b' u bs p err o.2.1 o.2.2 ∧ Below w0.heap.size w0 w' := by
  obtain ⟨out, b', rfl, h0, h1, h2, h3, h4⟩ := k
  refine ⟨out, b', rfl, h0, fun e => ?_, ⟨h1, h.r.chg h2 (fun e => h.ne e.symm) (fun hne k hk e => h.nu hne (by rw [hk, e])), h.ne, by rw [h4]; exact h.nb, h.nu, h.ga, h.gq⟩, hB.trans (h2.below hB.size (fun k hk => by rw [hk]; exact h.ga))⟩
  have := h3 q e
  have := h.r.blk.lt
  omega
theorem PRm.fix2 {w0 w w' : World} {g q : Nat} {b u out1 : Value} {bs ys1 : List UInt8} {p : Nat} {err : Int} {o : List UInt8 × List UInt8 × Int} {e : Ending} (h : PRm w0.heap.size w g q b u bs p err o.2.1 o.2.2) (hB : Below w0.heap.size w0 w)
    (ho : Own8 w out1 ys1) (hq : out1.ownBlock ≠ some q) (k : RFixOut w q u bs o e w') :
    ∃ out p', e = .returned out ∧ Own8 w' out o.1 ∧ Rd w' out1 (bvs ys1) ∧ PR w0.heap.size w' g q b u bs p' o.2.2 ∧ Below w0.heap.size w0 w' := by
  obtain ⟨out, p', rfl, h0, h1, h2, h3, h4⟩ := k
  refine ⟨out, p', rfl, h0, (Rd.of_own ho).chg h3 (fun k hk e => hq (by rw [hk, e])), ⟨?_, h1, h.ne, h.nb, h.nu, h.ga, h.gq⟩, hB.trans (h3.below hB.size (fun k hk => by rw [hk]; exact h.gq))⟩
  rw [h2]
  exact h.a.chg h3 h.ne (fun k hk e => h.nb (by rw [hk, e]))
def RdrNew2 (w : World) (bs : List UInt8) (e : Ending) (w' : World) : Prop := ∃ g b, e = .returned (.pointer (some ⟨g, 0, none⟩)) ∧ w.heap.size ≤ g ∧ Rdr w' g b bs 0 ∧ Below w.heap.size w w' ∧ (∀ k, b.ownBlock = some k → k < w'.heap.size)
set_option maxRecDepth 10000 in
set_option maxHeartbeats 400000 in
theorem NewReader2_calls (w : World) (x : Value) (bs : List UInt8) (hx : Rd w x (bvs bs)) (hl : bs.length ≤ 1000000000) :
    Calls Try.prog 42 #[x] w (RdrNew2 w bs) := by
  obtain ⟨A, c, rfl⟩ := hx.shape8
  go_enter Try.func42, Try.ntmps42
  go_wp2_with fail
  refine (Clone8_calls w _ bs hx hl).mono ?_
  rintro e w1 ⟨r, rfl, k1, k2, k3⟩
  obtain ⟨A1, c1, rfl⟩ := k1.shape
  go_wp2
  go_ret
  refine ⟨_, _, rfl, k2.size, ⟨Blk.new _ _ _, (Rd.of_own k1).alloc _, fun e => ?_⟩, k2.alloc k2.size _, fun k hk => ?_⟩
  · have := k1.lt _ e
    omega
  · have h1 := k1.lt _ hk
    have h2 := (((Below.refl _ w1).alloc (Nat.le_refl _) (.cells #[.slice A1 bs.length c1, .int .i64 0] 99))).size
    exact Nat.lt_of_lt_of_le h1 h2
theorem endP_idem (rs : List UInt8) (err : Int) : endP rs (endP rs err) = endP rs err := by
  unfold endP
  by_cases h : err = 0 ∧ rs ≠ []
  · simp [h]
  · rw [if_neg h, if_neg h]
end Go.Proofs.Ytoloogpglnonaaa
