/- The log in memory. -/
import Derived.Test.YtefbmbfhhhjgkaaWq
namespace Go.Proofs.Ytefbmbfhhhjgkaa
open Go.RowKit
variable {F : Nat → Prop}
/-- Block b is a map that holds f: rows of 512 bytes by numbers below N; the rows lie in F. -/
structure MBv (F : Nat → Prop) (w : World) (b N : Nat) (mf : Nat → Option Value) (f : Nat → Option (List UInt8)) : Prop where
  im : IM Try.prog 3 w b N mf
  at_ : ∀ k, (f k = none ∧ mf k = none) ∨ ∃ bs v, f k = some bs ∧ mf k = some v ∧ bs.length = 512 ∧ RdT F 5 w v (bvs bs)
def MB (F : Nat → Prop) (w : World) (b N : Nat) (f : Nat → Option (List UInt8)) : Prop := ∃ mf, MBv F w b N mf f
namespace MBv
variable {w w' : World} {b N : Nat} {mf : Nat → Option Value} {f : Nat → Option (List UInt8)} {S2 : Nat → Prop}
theorem chg (h : MBv F w b N mf f) (hb : Chg S2 w w') (hS : ¬ S2 b) (h8 : ∀ k cs, Blk w k 5 cs → ¬ S2 k) : MBv F w' b N mf f :=
  ⟨h.im.chg hb hS, fun k => by
    rcases h.at_ k with h1 | ⟨bs, v, h1, h2, h3, h4⟩
    · exact .inl h1
    · exact .inr ⟨bs, v, h1, h2, h3, h4.chg hb h8⟩⟩
theorem chgF (h : MBv F w b N mf f) (hb : Chg S2 w w') (hS : ¬ S2 b) (hF : ∀ k, F k → ¬ S2 k) : MBv F w' b N mf f :=
  ⟨h.im.chg hb hS, fun k => by
    rcases h.at_ k with h1 | ⟨bs, v, h1, h2, h3, h4⟩
    · exact .inl h1
    · exact .inr ⟨bs, v, h1, h2, h3, h4.chgF hb hF⟩⟩
theorem wider {F' : Nat → Prop} (h : MBv F w b N mf f) (hF : ∀ k, F k → k < w.heap.size → F' k) : MBv F' w b N mf f :=
  ⟨h.im, fun k => by
    rcases h.at_ k with h1 | ⟨bs, v, h1, h2, h3, h4⟩
    · exact .inl h1
    · exact .inr ⟨bs, v, h1, h2, h3, h4.wider hF⟩⟩
theorem below (h : MBv F w b N mf f) (hb : Below w.heap.size w w') : MBv F w' b N mf f :=
  h.chg (S2 := fun k => w.heap.size ≤ k) ((Chg.of_below hb).mono (fun _ _ h => h)) (Nat.not_le.2 h.im.lt) (fun k cs hk => Nat.not_le.2 hk.lt)
theorem some_iff (h : MBv F w b N mf f) (k : Nat) : (mf k).isSome = (f k).isSome := by
  rcases h.at_ k with ⟨h1, h2⟩ | ⟨bs, v, h1, h2, _⟩ <;> rw [h1, h2] <;> rfl
theorem off (h : MBv F w b N mf f) {k : Nat} (hk : N ≤ k) : f k = none := by
  rcases h.at_ k with ⟨h1, h2⟩ | ⟨bs, v, h1, h2, _⟩
  · exact h1
  · rw [h.im.off hk] at h2; cases h2
/-- One is put in. -/
theorem put (h : MBv F w b N mf f) {n : Nat} {v : Value} {bs : List UInt8} (hl : bs.length = 512) (hr : RdT F 5 w v (bvs bs)) (hm : IM Try.prog 3 w' b N (fun j => if j = n then some v else mf j)) (ht : w.mapTurned w' b) :
    MBv F w' b N (fun j => if j = n then some v else mf j) (fun j => if j = n then some bs else f j) := by
  have hc : Chg (fun k => k = b) w w' := Chg.turned ht rfl
  have h8 : ∀ k cs, Blk w k 5 cs → ¬ k = b := fun k cs hk => h.im.blk_ne hk
  refine ⟨hm, fun k => ?_⟩
  by_cases e : k = n
  · rw [if_pos e, if_pos e]
    exact .inr ⟨bs, v, rfl, rfl, hl, hr.chg hc h8⟩
  · rw [if_neg e, if_neg e]
    rcases h.at_ k with h1 | ⟨bs, v, h1, h2, h3, h4⟩
    · exact .inl h1
    · exact .inr ⟨bs, v, h1, h2, h3, h4.chg hc h8⟩
theorem del (h : MBv F w b N mf f) {n : Nat} (hm : IM Try.prog 3 w' b N (fun j => if j = n then none else mf j)) (ht : w.mapTurned w' b) :
    MBv F w' b N (fun j => if j = n then none else mf j) (fun j => if j = n then none else f j) := by
  have hc : Chg (fun k => k = b) w w' := Chg.turned ht rfl
  have h8 : ∀ k cs, Blk w k 5 cs → ¬ k = b := fun k cs hk => h.im.blk_ne hk
  refine ⟨hm, fun k => ?_⟩
  by_cases e : k = n
  · rw [if_pos e, if_pos e]
    exact .inl ⟨rfl, rfl⟩
  · rw [if_neg e, if_neg e]
    rcases h.at_ k with h1 | ⟨bs, v, h1, h2, h3, h4⟩
    · exact .inl h1
    · exact .inr ⟨bs, v, h1, h2, h3, h4.chg hc h8⟩
theorem made (F : Nat → Prop) (w : World) (N : Nat) : MBv F (w.alloc (.map #[] 0)) w.heap.size N (fun _ => none) (fun _ => none) :=
  ⟨IM.made _ _ w N, fun _ => .inl ⟨rfl, rfl⟩⟩
end MBv
/-- A log: its disk, what waits, how many transactions, whether one is open. -/
structure Lk where
  d : Dk
  wt : Nat → Option (List UInt8)
  pn : Int
  op : Bool
structure LM (F : Nat → Prop) (w : World) (gl g mb : Nat) (mf : Nat → Option Value) (Sd : Nat → Prop) (x : Lk) : Prop where
  blk : Blk w gl 74 #[.pointer (some ⟨g, 0, none⟩), .map (some mb), .int .i64 x.pn, .bool x.op]
  dk : DO w g x.d Sd F
  mp : MBv F w mb (x.d.l.length - 65) mf x.wt
  ng : ¬ Sd gl
  nm : ¬ Sd mb
/-- A log at gl over the disk at g: S: the blocks that its calls may turn; F: those in which its data lie. -/
def LO (w : World) (gl g : Nat) (x : Lk) (S F : Nat → Prop) : Prop := ∃ mb mf Sd, LM F w gl g mb mf Sd x ∧ ∀ k, S k ↔ Sd k ∨ k = gl ∨ k = mb
namespace LM
variable {w w' : World} {gl g mb : Nat} {mf : Nat → Option Value} {Sd S2 : Nat → Prop} {x : Lk}
theorem ne (h : LM F w gl g mb mf Sd x) : gl ≠ mb := h.mp.im.blk_ne h.blk
theorem gne (h : LM F w gl g mb mf Sd x) : gl ≠ g := fun e => h.ng (e ▸ h.dk.dk.at_)
theorem mne (h : LM F w gl g mb mf Sd x) : mb ≠ g := fun e => h.nm (e ▸ h.dk.dk.at_)
theorem chg (h : LM F w gl g mb mf Sd x) (hb : Chg S2 w w') (hS : ∀ k, Sd k ∨ k = gl ∨ k = mb → ¬ S2 k) (hF : ∀ k, F k → ¬ S2 k) : LM F w' gl g mb mf Sd x :=
  ⟨h.blk.chg hb (hS _ (.inr (.inl rfl))), h.dk.chg hb (fun k hk => hS k (.inl hk)) hF, h.mp.chgF hb (hS _ (.inr (.inr rfl))) hF, h.ng, h.nm⟩
theorem below (h : LM F w gl g mb mf Sd x) (hb : Below w.heap.size w w') : LM F w' gl g mb mf Sd x :=
  ⟨h.blk.chg (Chg.of_below hb) (S := fun _ => False) id, h.dk.below hb, h.mp.below hb, h.ng, h.nm⟩
end LM
namespace LO
variable {w w' : World} {gl g : Nat} {S S2 : Nat → Prop} {x : Lk}
theorem lt (h : LO w gl g x S F) {k : Nat} (hk : S k) : k < w.heap.size := by
  obtain ⟨mb, mf, Sd, h, hs⟩ := h
  rcases (hs k).1 hk with h1 | rfl | rfl
  · exact h.dk.lt h1
  · exact h.blk.lt
  · exact h.mp.im.lt
theorem chg (h : LO w gl g x S F) (hb : Chg S2 w w') (hS : ∀ k, S k → ¬ S2 k) (hF : ∀ k, F k → ¬ S2 k) : LO w' gl g x S F := by
  obtain ⟨mb, mf, Sd, h, hs⟩ := h
  exact ⟨mb, mf, Sd, h.chg hb (fun k hk => hS k ((hs k).2 hk)) hF, hs⟩
theorem below (h : LO w gl g x S F) (hb : Below w.heap.size w w') : LO w' gl g x S F := by
  obtain ⟨mb, mf, Sd, h, hs⟩ := h
  exact ⟨mb, mf, Sd, h.below hb, hs⟩
theorem not8 (h : LO w gl g x S F) : ∀ k cs, Blk w k 5 cs → ¬ S k := fun k cs hk hS => by
  obtain ⟨mb, mf, Sd, h, hs⟩ := h
  rcases (hs k).1 hS with h1 | rfl | rfl
  · exact h.dk.not8 k cs hk h1
  · exact absurd rfl (hk.ne_ h.blk (by decide))
  · exact absurd rfl (h.mp.im.blk_ne hk)
theorem noti (h : LO w gl g x S F) : ∀ k cs, Blk w k 3 cs → ¬ S k := fun k cs hk hS => by
  obtain ⟨mb, mf, Sd, h, hs⟩ := h
  rcases (hs k).1 hS with h1 | rfl | rfl
  · exact h.dk.noti k cs hk h1
  · exact absurd rfl (hk.ne_ h.blk (by decide))
  · exact absurd rfl (h.mp.im.blk_ne hk)
/-- Its disk alone. -/
theorem disk (h : LO w gl g x S F) : ∃ Sd, DO w g x.d Sd F ∧ ∀ k, Sd k → S k := by
  obtain ⟨mb, mf, Sd, h, hs⟩ := h
  exact ⟨Sd, h.dk, fun k hk => (hs k).2 (.inl hk)⟩
end LO
/-- What a call leaves that may write the log. -/
def LWrote (w : World) (S F : Nat → Prop) (gl g : Nat) (x : Lk) (w' : World) : Prop := ∃ S' F', LO w' gl g x S' F' ∧ Chg S w w' ∧ (∀ k, S' k → S k ∨ w.heap.size ≤ k) ∧ ∀ k, F' k → F k ∨ w.heap.size ≤ k
/-- A transaction of the log at gl. -/
structure Tk where
  m : Nat → Option (List UInt8)
  ov : Bool
structure TMm (F : Nat → Prop) (w : World) (gt gl mt N : Nat) (mf : Nat → Option Value) (t : Tk) : Prop where
  blk : Blk w gt 76 #[.pointer (some ⟨gl, 0, none⟩), .map (some mt), .bool t.ov]
  mp : MBv F w mt N mf t.m
def TX (w : World) (gt gl N : Nat) (t : Tk) (S F : Nat → Prop) : Prop := ∃ mt mf, TMm F w gt gl mt N mf t ∧ (∀ k, S k ↔ k = gt ∨ k = mt) ∧ ∀ k, F k → k < w.heap.size
end Go.Proofs.Ytefbmbfhhhjgkaa
