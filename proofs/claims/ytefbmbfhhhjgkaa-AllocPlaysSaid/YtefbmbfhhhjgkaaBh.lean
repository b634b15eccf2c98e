/- The disk's contracts in a caller's words: DK (nothing said of where its data lie), DO (with both sets of blocks). -/
import Derived.Test.YtefbmbfhhhjgkaaBx
namespace Go.Proofs.Ytefbmbfhhhjgkaa
open Go.RowKit
abbrev DK (w : World) (g : Nat) (d : Dk) (S : Nat → Prop) : Prop := DKF (fun _ => True) w g d S
abbrev Wrote (w : World) (S : Nat → Prop) (g : Nat) (d : Dk) (w' : World) : Prop := WroteF (fun _ => True) w S g d w'
abbrev NewOut (w : World) (n : Int) (e : Ending) (w' : World) : Prop := NewOutF (fun _ => True) w n e w'
/-- A disk: S: the blocks that its calls may turn; F: those in which its data lie. -/
structure DO (w : World) (g : Nat) (d : Dk) (S F : Nat → Prop) : Prop where
  dk : DKF F w g d S
  fl : ∀ k, F k → k < w.heap.size
namespace DO
variable {w w' : World} {g : Nat} {d : Dk} {S F S2 : Nat → Prop}
theorem of (h : DKF F w g d S) : DO w g d S (fun k => F k ∧ k < w.heap.size) := ⟨h.wider fun _ h l => ⟨h, l⟩, fun _ h => h.2⟩
theorem all (h : DO w g d S F) : DK w g d S := h.dk.wider fun _ _ _ => trivial
theorem lt (h : DO w g d S F) {k : Nat} (hk : S k) : k < w.heap.size := h.dk.lt hk
/-- What turns neither its blocks nor its data's leaves it. -/
theorem chg (h : DO w g d S F) (hb : Chg S2 w w') (hS : ∀ k, S k → ¬ S2 k) (hF : ∀ k, F k → ¬ S2 k) : DO w' g d S F := ⟨h.dk.chgF hb hS hF, fun k hk => Nat.lt_of_lt_of_le (h.fl k hk) hb.size⟩
theorem below (h : DO w g d S F) (hb : Below w.heap.size w w') : DO w' g d S F := ⟨h.dk.below hb, fun k hk => Nat.lt_of_lt_of_le (h.fl k hk) hb.size⟩
theorem drewN (h : DO w g d S F) (n : Nat) : DO (w.drewN n) g d S F := ⟨h.dk.drewN n, h.fl⟩
theorem not8 (h : DO w g d S F) : ∀ k cs, Blk w k 5 cs → ¬ S k := h.dk.not8
theorem noti (h : DO w g d S F) : ∀ k cs, Blk w k 3 cs → ¬ S k := h.dk.noti
end DO
def WroteO (w : World) (S F : Nat → Prop) (g : Nat) (d : Dk) (w' : World) : Prop := ∃ S' F', DO w' g d S' F' ∧ Chg S w w' ∧ (∀ k, S' k → S k ∨ w.heap.size ≤ k) ∧ ∀ k, F' k → F k ∨ w.heap.size ≤ k
theorem WroteO.of {w w' : World} {S F : Nat → Prop} {g : Nat} {d : Dk} (h : WroteF (fun k => F k ∨ w.heap.size ≤ k) w S g d w') : WroteO w S F g d w' := by
  obtain ⟨S', h1, h2, h3⟩ := h
  exact ⟨S', _, DO.of h1, h2, h3, fun k hk => hk.1⟩
theorem WroteO.refl {w : World} {S F : Nat → Prop} {g : Nat} {d : Dk} (h : DO w g d S F) : WroteO w S F g d w := ⟨S, F, h, Chg.refl _ _, fun _ h => .inl h, fun _ h => .inl h⟩
theorem WroteO.trans {w w1 w2 : World} {S S1 F F1 : Nat → Prop} {g : Nat} {d : Dk} (h1 : Chg S w w1) (hs : ∀ k, S1 k → S k ∨ w.heap.size ≤ k) (hf : ∀ k, F1 k → F k ∨ w.heap.size ≤ k) (h : WroteO w1 S1 F1 g d w2) : WroteO w S F g d w2 := by
  obtain ⟨S', F', hd, hc, hs', hf'⟩ := h
  refine ⟨S', F', hd, h1.then_ hc (fun k hk h => (hs k h).resolve_right (by omega)), fun k hk => ?_, fun k hk => ?_⟩
  · rcases hs' k hk with h | h
    · exact hs k h
    · exact .inr (Nat.le_trans h1.size h)
  · rcases hf' k hk with h | h
    · exact hf k h
    · exact .inr (Nat.le_trans h1.size h)
theorem WroteO.from {w w1 w' : World} {S F : Nat → Prop} {g : Nat} {d : Dk} (hB : Below w.heap.size w w1) (h : WroteO w1 S F g d w') : WroteO w S F g d w' :=
  WroteO.trans ((Chg.of_below hB).mono (fun _ _ h => h)) (fun k hk => .inl hk) (fun k hk => .inl hk) h
theorem lastP_len {w : World} {g : Nat} {d : Dk} {S F : Nat → Prop} (hd : DKF F w g d S) {n : Nat} (hn : n < d.l.length) : (lastP d n).length = 512 := lastP_lenF hd hn
theorem imgK_len {w : World} {g : Nat} {d : Dk} {S F : Nat → Prop} (hd : DKF F w g d S) : ∀ k, k ≤ d.l.length → (imgK d k).length = k * 512 := imgK_lenF hd
def NewO (w : World) (n : Int) (e : Ending) (w' : World) : Prop :=
  if n < 1 ∨ 16384 < n then e = .returned (.tuple #[.pointer none, .int .i64 1]) ∧ w = w'
  else ∃ g S F, e = .returned (.tuple #[.pointer (some ⟨g, 0, none⟩), .int .i64 0]) ∧ DO w' g (newD n.toNat) S F ∧ Below w.heap.size w w' ∧ (∀ k, S k → w.heap.size ≤ k) ∧ ∀ k, F k → w.heap.size ≤ k
def TwinO (w : World) (F : Nat → Prop) (d : Dk) (e : Ending) (w' : World) : Prop := ∃ g S F', e = .returned (.pointer (some ⟨g, 0, none⟩)) ∧ DO w' g d S F' ∧ Below w.heap.size w w' ∧ (∀ k, S k → w.heap.size ≤ k) ∧ ∀ k, F' k → F k ∨ w.heap.size ≤ k
theorem New_calls (w : World) (n : Int)  :
    Calls Try.prog 27 #[.int .i64 n] w (NewOut w n) :=
  New_callsF (F := fun _ => True) w n (fun _ _ => trivial)
theorem New_callsO (w : World) (n : Int) : Calls Try.prog 27 #[.int .i64 n] w (NewO w n) :=
  (New_callsF (F := fun k => w.heap.size ≤ k) w n (fun k hk => hk)).mono fun e w' h => by
    unfold NewOutF at h
    unfold NewO
    split at h
    · rename_i hn; rw [if_pos hn]; exact h
    · rename_i hn
      rw [if_neg hn]
      obtain ⟨g, S, he, hd, hb, hs⟩ := h
      exact ⟨g, S, _, he, DO.of hd, hb, hs, fun k hk => hk.1⟩
theorem ask_calls (w : World) (g : Nat) (d : Dk) (S : Nat → Prop) (hd : DK w g d S) (n : Int) :
    Calls Try.prog 73 #[.pointer (some ⟨g, 0, none⟩), .int .i64 n] w (Ans w (.int .i64 (askP d n))) :=
  ask_callsF (F := fun _ => True) w g d S hd n
theorem ask_callsO (w : World) (g : Nat) (d : Dk) (S : Nat → Prop) {F : Nat → Prop} (hd : DO w g d S F) (n : Int) :
    Calls Try.prog 73 #[.pointer (some ⟨g, 0, none⟩), .int .i64 n] w (Ans w (.int .i64 (askP d n))) :=
  ask_callsF w g d S hd.dk n 
theorem Read_calls (w : World) (g : Nat) (d : Dk) (S : Nat → Prop) (hd : DK w g d S) (n : Int) (hl : d.l.length ≤ 16384) (hv : ∀ vs ∈ d.wt, vs.length ≤ 1000000000) :
    Calls Try.prog 51 #[.pointer (some ⟨g, 0, none⟩), .int .i64 n] w (ReadOut w d n) :=
  Read_callsF (F := fun _ => True) w g d S hd n hl hv
theorem Read_callsO (w : World) (g : Nat) (d : Dk) (S : Nat → Prop) {F : Nat → Prop} (hd : DO w g d S F) (n : Int) (hl : d.l.length ≤ 16384) (hv : ∀ vs ∈ d.wt, vs.length ≤ 1000000000) :
    Calls Try.prog 51 #[.pointer (some ⟨g, 0, none⟩), .int .i64 n] w (ReadOut w d n) :=
  Read_callsF w g d S hd.dk n hl hv 
theorem On_calls (w : World) (g : Nat) (d : Dk) (S : Nat → Prop) (hd : DK w g d S) :
    Calls Try.prog 31 #[.pointer (some ⟨g, 0, none⟩)] w fun e w' => e = .returned (.tuple #[]) ∧ Wrote w S g (onD d) w' :=
  On_callsF (F := fun _ => True) w g d S hd
theorem On_callsO (w : World) (g : Nat) (d : Dk) (S : Nat → Prop) {F : Nat → Prop} (hd : DO w g d S F) :
    Calls Try.prog 31 #[.pointer (some ⟨g, 0, none⟩)] w fun e w' => e = .returned (.tuple #[]) ∧ WroteO w S F g (onD d) w' :=
  (On_callsF (F := fun k => F k ∨ w.heap.size ≤ k) w g d S (hd.dk.wider fun _ h _ => .inl h) ).mono fun e w' h => ⟨h.1, WroteO.of h.2⟩
theorem Off_calls (w : World) (g : Nat) (d : Dk) (S : Nat → Prop) (hd : DK w g d S) :
    Calls Try.prog 46 #[.pointer (some ⟨g, 0, none⟩)] w (Ans w (.bool d.off)) :=
  Off_callsF (F := fun _ => True) w g d S hd
theorem Off_callsO (w : World) (g : Nat) (d : Dk) (S : Nat → Prop) {F : Nat → Prop} (hd : DO w g d S F) :
    Calls Try.prog 46 #[.pointer (some ⟨g, 0, none⟩)] w (Ans w (.bool d.off)) :=
  Off_callsF w g d S hd.dk 
theorem Blocks_calls (w : World) (g : Nat) (d : Dk) (S : Nat → Prop) (hd : DK w g d S) :
    Calls Try.prog 43 #[.pointer (some ⟨g, 0, none⟩)] w (Ans w (.int .i64 d.l.length)) :=
  Blocks_callsF (F := fun _ => True) w g d S hd
theorem Blocks_callsO (w : World) (g : Nat) (d : Dk) (S : Nat → Prop) {F : Nat → Prop} (hd : DO w g d S F) :
    Calls Try.prog 43 #[.pointer (some ⟨g, 0, none⟩)] w (Ans w (.int .i64 d.l.length)) :=
  Blocks_callsF w g d S hd.dk 
theorem Sync_calls (w : World) (g : Nat) (d : Dk) (S : Nat → Prop) (hd : DK w g d S) (ho : d.off = false) (hl : d.l.length ≤ 16384) (hv : waitP d ≤ 1000000000000) :
    Calls Try.prog 56 #[.pointer (some ⟨g, 0, none⟩)] w fun e w' => e = .returned (.int .i64 0) ∧ Wrote w S g (syncD d) w' :=
  Sync_callsF (F := fun _ => True) w g d S hd ho hl hv
theorem Sync_callsO (w : World) (g : Nat) (d : Dk) (S : Nat → Prop) {F : Nat → Prop} (hd : DO w g d S F) (ho : d.off = false) (hl : d.l.length ≤ 16384) (hv : waitP d ≤ 1000000000000) :
    Calls Try.prog 56 #[.pointer (some ⟨g, 0, none⟩)] w fun e w' => e = .returned (.int .i64 0) ∧ WroteO w S F g (syncD d) w' :=
  (Sync_callsF (F := fun k => F k ∨ w.heap.size ≤ k) w g d S (hd.dk.wider fun _ h _ => .inl h) ho hl hv ).mono fun e w' h => ⟨h.1, WroteO.of h.2⟩
theorem SyncOff_calls (w : World) (g : Nat) (d : Dk) (S : Nat → Prop) (hd : DK w g d S) (ho : d.off = true) :
    Calls Try.prog 56 #[.pointer (some ⟨g, 0, none⟩)] w (Ans w (.int .i64 6)) :=
  SyncOff_callsF (F := fun _ => True) w g d S hd ho
theorem SyncOff_callsO (w : World) (g : Nat) (d : Dk) (S : Nat → Prop) {F : Nat → Prop} (hd : DO w g d S F) (ho : d.off = true) :
    Calls Try.prog 56 #[.pointer (some ⟨g, 0, none⟩)] w (Ans w (.int .i64 6)) :=
  SyncOff_callsF w g d S hd.dk ho 
theorem Cut_calls (w : World) (g : Nat) (d : Dk) (S : Nat → Prop) (hd : DK w g d S) (ho : d.off = false) (hl : d.l.length ≤ 16384) (hv : waitP d ≤ 1000000000000) (x : Value) (picks : List Int) (hx : Rd w x (ivs picks)) (hxn : picks ≠ [] → ∀ j, x.ownBlock = some j → ¬ S j) (hpl : picks.length ≤ 1000000000000) :
    Calls Try.prog 30 #[.pointer (some ⟨g, 0, none⟩), x] w fun e w' => e = .returned (.tuple #[]) ∧ Wrote w S g (cutD d picks) w' :=
  Cut_callsF (F := fun _ => True) w g d S hd ho hl hv x picks hx hxn hpl
theorem Cut_callsO (w : World) (g : Nat) (d : Dk) (S : Nat → Prop) {F : Nat → Prop} (hd : DO w g d S F) (ho : d.off = false) (hl : d.l.length ≤ 16384) (hv : waitP d ≤ 1000000000000) (x : Value) (picks : List Int) (hx : Rd w x (ivs picks)) (hxn : picks ≠ [] → ∀ j, x.ownBlock = some j → ¬ S j) (hpl : picks.length ≤ 1000000000000) :
    Calls Try.prog 30 #[.pointer (some ⟨g, 0, none⟩), x] w fun e w' => e = .returned (.tuple #[]) ∧ WroteO w S F g (cutD d picks) w' :=
  (Cut_callsF (F := fun k => F k ∨ w.heap.size ≤ k) w g d S (hd.dk.wider fun _ h _ => .inl h) ho hl hv x picks hx hxn hpl ).mono fun e w' h => ⟨h.1, WroteO.of h.2⟩
theorem Write_calls (w : World) (g : Nat) (d : Dk) (S : Nat → Prop) (hd : DK w g d S) (n : Int) (x : Value) (b : List UInt8) (hx : Rd w x (bvs b)) (hxo : ∀ k, x.ownBlock = some k → ¬ S k) (hb : b.length ≤ 1000000000) (hl : d.l.length ≤ 16384) (hv : waitP d ≤ 1000000000) (ha : d.arm ≤ 9223372036854775807) (hpl : d.picks.length ≤ 1000000000) :
    Calls Try.prog 53 #[.pointer (some ⟨g, 0, none⟩), .int .i64 n, x] w fun e w' => e = .returned (.int .i64 (writeP d n b).1) ∧ Wrote w S g (writeP d n b).2 w' :=
  Write_callsF (F := fun _ => True) w (fun _ _ => trivial) g d S hd n x b hx hxo hb hl hv ha hpl
theorem Write_callsO (w : World) (g : Nat) (d : Dk) (S : Nat → Prop) {F : Nat → Prop} (hd : DO w g d S F) (n : Int) (x : Value) (b : List UInt8) (hx : Rd w x (bvs b)) (hxo : ∀ k, x.ownBlock = some k → ¬ S k) (hb : b.length ≤ 1000000000) (hl : d.l.length ≤ 16384) (hv : waitP d ≤ 1000000000) (ha : d.arm ≤ 9223372036854775807) (hpl : d.picks.length ≤ 1000000000) :
    Calls Try.prog 53 #[.pointer (some ⟨g, 0, none⟩), .int .i64 n, x] w fun e w' => e = .returned (.int .i64 (writeP d n b).1) ∧ WroteO w S F g (writeP d n b).2 w' :=
  (Write_callsF (F := fun k => F k ∨ w.heap.size ≤ k) w (fun _ h => .inr h) g d S (hd.dk.wider fun _ h _ => .inl h) n x b hx hxo hb hl hv ha hpl ).mono fun e w' h => ⟨h.1, WroteO.of h.2⟩
end Go.Proofs.Ytefbmbfhhhjgkaa
