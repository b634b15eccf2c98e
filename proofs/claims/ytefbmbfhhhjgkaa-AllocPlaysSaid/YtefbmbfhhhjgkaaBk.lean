/- The disk in memory. -/
import Derived.Test.YtefbmbfhhhjgkaaMk
namespace Go.Proofs.Ytefbmbfhhhjgkaa
open Go.RowKit
variable {F : Nat → Prop}
/-- Blocks, versions that wait by block, power, Writes, the Arm and its picks. -/
structure Dk where
  l : List (List UInt8)
  wt : List (List (List UInt8))
  off : Bool
  wr : Int
  arm : Int
  picks : List Int
def ivs (l : List Int) : List Value := l.map (Value.int .i64)
structure Dsk (F : Nat → Prop) (w : World) (g gl cl mb : Nat) (pk : Value) (lv : List Value) (mf : Nat → Option Value) (d : Dk) : Prop where
  blk : Blk w g 81 #[.slice (some ⟨gl, 0, none⟩) d.l.length cl, .map (some mb), .bool d.off, .int .i64 d.wr, .int .i64 d.arm, pk]
  row : w.ownsRow 0 63 1 (.slice (some ⟨gl, 0, none⟩) d.l.length cl) d.l.length lv
  wtl : d.wt.length = d.l.length
  dat : ∀ (i : Nat) (u : Value) (b : List UInt8), lv[i]? = some u → d.l[i]? = some b → RdT F 5 w u (bvs b)
  len : ∀ b ∈ d.l, b.length = 512
  map : IM Try.prog 3 w mb d.l.length mf
  ver : ∀ (k : Nat) (vs : List (List UInt8)), d.wt[k]? = some vs → (vs = [] ∧ mf k = none) ∨ (vs ≠ [] ∧ ∃ (b c : Nat) (us : List Value), mf k = some (.slice (some ⟨b, 0, none⟩) vs.length c) ∧ w.ownsRow 0 63 1 (.slice (some ⟨b, 0, none⟩) vs.length c) vs.length us ∧ b ≠ gl ∧
    ∀ (i : Nat) (u : Value) (x : List UInt8), us[i]? = some u → vs[i]? = some x → RdT F 5 w u (bvs x))
  vlen : ∀ vs ∈ d.wt, ∀ b ∈ vs, b.length = 512
  apart : ∀ (j k : Nat) (v v' : Value) (b : Nat), mf j = some v → mf k = some v' → v.ownBlock = some b → v'.ownBlock = some b → j = k
  pick : RdT F 3 w pk (ivs d.picks)
/-- The blocks that the disk's own calls may turn. -/
def foot (g gl mb : Nat) (mf : Nat → Option Value) (k : Nat) : Prop := k = g ∨ k = gl ∨ k = mb ∨ ∃ j v, mf j = some v ∧ v.ownBlock = some k
def DKF (F : Nat → Prop) (w : World) (g : Nat) (d : Dk) (S : Nat → Prop) : Prop := ∃ gl cl mb pk lv mf, Dsk F w g gl cl mb pk lv mf d ∧ ∀ k, S k ↔ foot g gl mb mf k
namespace Dsk
variable {w w' : World} {g gl cl mb : Nat} {pk : Value} {lv : List Value} {mf : Nat → Option Value} {d : Dk}
theorem lvl (h : Dsk F w g gl cl mb pk lv mf d) : lv.length = d.l.length := by simpa using h.row.1
theorem mfat (h : Dsk F w g gl cl mb pk lv mf d) {j : Nat} {v : Value} (hv : mf j = some v) : ∃ (b c : Nat) (us : List Value) (vs : List (List UInt8)), d.wt[j]? = some vs ∧ vs ≠ [] ∧ v = .slice (some ⟨b, 0, none⟩) vs.length c ∧ w.ownsRow 0 63 1 (.slice (some ⟨b, 0, none⟩) vs.length c) vs.length us ∧ b ≠ gl ∧
    ∀ (i : Nat) (u : Value) (x : List UInt8), us[i]? = some u → vs[i]? = some x → RdT F 5 w u (bvs x) := by
  have hj : j < d.wt.length := by
    rcases Nat.lt_or_ge j d.wt.length with h1 | h1
    · exact h1
    · rw [h.wtl] at h1
      rw [h.map.off h1] at hv
      cases hv
  rcases h.ver j _ (List.getElem?_eq_getElem hj) with ⟨_, h2⟩ | ⟨h1, b, c, us, h2, h3, h4, h5⟩
  · rw [h2] at hv; cases hv
  · rw [h2] at hv
    cases hv
    exact ⟨b, c, us, _, List.getElem?_eq_getElem hj, h1, rfl, h3, h4, h5⟩
/-- What lies in the footprint: the disk's struct, rows of slices, a map. -/
theorem kind (h : Dsk F w g gl cl mb pk lv mf d) {k t : Nat} {cs : Array Value} (hf : foot g gl mb mf k) (hb : Blk w k t cs) : t = 81 ∨ t = 63 := by
  rcases hf with rfl | rfl | rfl | ⟨j, v, hj, hv⟩
  · rcases Decidable.em (t = 81) with h1 | h1
    · exact .inl h1
    · exact absurd rfl (hb.ne_ h.blk h1)
  · obtain ⟨cs', hc⟩ := own_blk h.row
    rcases Decidable.em (t = 63) with h1 | h1
    · exact .inr h1
    · exact absurd rfl (hb.ne_ hc h1)
  · exact absurd rfl (h.map.blk_ne hb)
  · obtain ⟨b, c, us, vs, _, _, rfl, ho, _⟩ := h.mfat hj
    obtain ⟨cs', hc⟩ := own_blk ho
    have : b = k := by simpa [Value.ownBlock] using hv
    subst this
    rcases Decidable.em (t = 63) with h1 | h1
    · exact .inr h1
    · exact absurd rfl (hb.ne_ hc h1)
theorem lt (h : Dsk F w g gl cl mb pk lv mf d) {k : Nat} (hf : foot g gl mb mf k) : k < w.heap.size := by
  rcases hf with rfl | rfl | rfl | ⟨j, v, hj, hv⟩
  · exact h.blk.lt
  · obtain ⟨cs', hc⟩ := own_blk h.row
    exact hc.lt
  · exact h.map.lt
  · obtain ⟨b, c, us, vs, _, _, rfl, ho, _⟩ := h.mfat hj
    obtain ⟨cs', hc⟩ := own_blk ho
    have : b = k := by simpa [Value.ownBlock] using hv
    subst this
    exact hc.lt
theorem chg {S : Nat → Prop} (h : Dsk F w g gl cl mb pk lv mf d) (hb : Chg S w w') (hS : ∀ k, foot g gl mb mf k → ¬ S k) (h8 : ∀ k cs, Blk w k 5 cs → ¬ S k) (hi : ∀ k cs, Blk w k 3 cs → ¬ S k) : Dsk F w' g gl cl mb pk lv mf d where
  blk := h.blk.chg hb (hS g (.inl rfl))
  row := own_keep h.row (hb.block gl (h.lt (.inr (.inl rfl))) (hS gl (.inr (.inl rfl))))
  wtl := h.wtl
  dat := fun i u b h1 h2 => (h.dat i u b h1 h2).chg hb h8
  len := h.len
  map := h.map.chg hb (hS mb (.inr (.inr (.inl rfl))))
  ver := fun k vs hk => by
    rcases h.ver k vs hk with h1 | ⟨h1, b, c, us, h2, h3, h4, h5⟩
    · exact .inl h1
    · have hf : foot g gl mb mf b := .inr (.inr (.inr ⟨k, _, h2, rfl⟩))
      exact .inr ⟨h1, b, c, us, h2, own_keep h3 (hb.block b (h.lt hf) (hS b hf)), h4, fun i u x h6 h7 => (h5 i u x h6 h7).chg hb h8⟩
  vlen := h.vlen
  apart := h.apart
  pick := h.pick.chg hb hi
theorem chgF {S : Nat → Prop} (h : Dsk F w g gl cl mb pk lv mf d) (hb : Chg S w w') (hS : ∀ k, foot g gl mb mf k → ¬ S k) (hF : ∀ k, F k → ¬ S k) : Dsk F w' g gl cl mb pk lv mf d where
  blk := h.blk.chg hb (hS g (.inl rfl))
  row := own_keep h.row (hb.block gl (h.lt (.inr (.inl rfl))) (hS gl (.inr (.inl rfl))))
  wtl := h.wtl
  dat := fun i u b h1 h2 => (h.dat i u b h1 h2).chgF hb hF
  len := h.len
  map := h.map.chg hb (hS mb (.inr (.inr (.inl rfl))))
  ver := fun k vs hk => by
    rcases h.ver k vs hk with h1 | ⟨h1, b, c, us, h2, h3, h4, h5⟩
    · exact .inl h1
    · have hf : foot g gl mb mf b := .inr (.inr (.inr ⟨k, _, h2, rfl⟩))
      exact .inr ⟨h1, b, c, us, h2, own_keep h3 (hb.block b (h.lt hf) (hS b hf)), h4, fun i u x h6 h7 => (h5 i u x h6 h7).chgF hb hF⟩
  vlen := h.vlen
  apart := h.apart
  pick := h.pick.chgF hb hF
theorem wider {F' : Nat → Prop} (h : Dsk F w g gl cl mb pk lv mf d) (hF : ∀ k, F k → k < w.heap.size → F' k) : Dsk F' w g gl cl mb pk lv mf d where
  blk := h.blk
  row := h.row
  wtl := h.wtl
  dat := fun i u b h1 h2 => (h.dat i u b h1 h2).wider hF
  len := h.len
  map := h.map
  ver := fun k vs hk => by
    rcases h.ver k vs hk with h1 | ⟨h1, b, c, us, h2, h3, h4, h5⟩
    · exact .inl h1
    · exact .inr ⟨h1, b, c, us, h2, h3, h4, fun i u x h6 h7 => (h5 i u x h6 h7).wider hF⟩
  vlen := h.vlen
  apart := h.apart
  pick := h.pick.wider hF
end Dsk
namespace DKF
variable {w w' : World} {g : Nat} {d : Dk} {S S2 : Nat → Prop}
theorem kind (h : DKF F w g d S) {k t : Nat} {cs : Array Value} (hf : S k) (hb : Blk w k t cs) : t = 81 ∨ t = 63 := by
  obtain ⟨gl, cl, mb, pk, lv, mf, hd, hs⟩ := h
  exact hd.kind ((hs k).1 hf) hb
theorem not8 (h : DKF F w g d S) : ∀ k cs, Blk w k 5 cs → ¬ S k := fun k cs hb hf => by
  rcases h.kind hf hb with e | e <;> exact absurd e (by decide)
theorem noti (h : DKF F w g d S) : ∀ k cs, Blk w k 3 cs → ¬ S k := fun k cs hb hf => by
  rcases h.kind hf hb with e | e <;> exact absurd e (by decide)
theorem lt (h : DKF F w g d S) {k : Nat} (hf : S k) : k < w.heap.size := by
  obtain ⟨gl, cl, mb, pk, lv, mf, hd, hs⟩ := h
  exact hd.lt ((hs k).1 hf)
theorem at_ (h : DKF F w g d S) : S g := by
  obtain ⟨gl, cl, mb, pk, lv, mf, hd, hs⟩ := h
  exact (hs g).2 (.inl rfl)
theorem chg (h : DKF F w g d S) (hb : Chg S2 w w') (hS : ∀ k, S k → ¬ S2 k) (h8 : ∀ k cs, Blk w k 5 cs → ¬ S2 k) (hi : ∀ k cs, Blk w k 3 cs → ¬ S2 k) : DKF F w' g d S := by
  obtain ⟨gl, cl, mb, pk, lv, mf, hd, hs⟩ := h
  exact ⟨gl, cl, mb, pk, lv, mf, hd.chg hb (fun k hk => hS k ((hs k).2 hk)) h8 hi, hs⟩
theorem chgF (h : DKF F w g d S) (hb : Chg S2 w w') (hS : ∀ k, S k → ¬ S2 k) (hF : ∀ k, F k → ¬ S2 k) : DKF F w' g d S := by
  obtain ⟨gl, cl, mb, pk, lv, mf, hd, hs⟩ := h
  exact ⟨gl, cl, mb, pk, lv, mf, hd.chgF hb (fun k hk => hS k ((hs k).2 hk)) hF, hs⟩
theorem wider {F' : Nat → Prop} (h : DKF F w g d S) (hF : ∀ k, F k → k < w.heap.size → F' k) : DKF F' w g d S := by
  obtain ⟨gl, cl, mb, pk, lv, mf, hd, hs⟩ := h
  exact ⟨gl, cl, mb, pk, lv, mf, hd.wider hF, hs⟩
theorem below (h : DKF F w g d S) (hb : Below w.heap.size w w') : DKF F w' g d S :=
  h.chg (S2 := fun k => w.heap.size ≤ k) ((Chg.of_below hb).mono (fun _ _ h => h)) (fun k hk => Nat.not_le.2 (h.lt hk)) (fun k cs hk => Nat.not_le.2 hk.lt) (fun k cs hk => Nat.not_le.2 hk.lt)
theorem drewN (h : DKF F w g d S) (n : Nat) : DKF F (w.drewN n) g d S := h.below ⟨rfl, rfl, rfl, Nat.le_refl _, fun _ _ => rfl⟩
end DKF
/-- What a call that writes the disk leaves. -/
def WroteF (F : Nat → Prop) (w : World) (S : Nat → Prop) (g : Nat) (d : Dk) (w' : World) : Prop := ∃ S', DKF F w' g d S' ∧ Chg S w w' ∧ ∀ k, S' k → S k ∨ w.heap.size ≤ k
theorem WroteF.trans {w w1 w2 : World} {S S1 : Nat → Prop} {g : Nat} {d : Dk} (h1 : Chg S w w1) (hs : ∀ k, S1 k → S k ∨ w.heap.size ≤ k) (h : WroteF F w1 S1 g d w2) : WroteF F w S g d w2 := by
  obtain ⟨S', hd, hc, hs'⟩ := h
  refine ⟨S', hd, h1.then_ hc (fun k hk h => (hs k h).resolve_right (by omega)), fun k hk => ?_⟩
  rcases hs' k hk with h | h
  · exact hs k h
  · exact .inr (Nat.le_trans h1.size h)
end Go.Proofs.Ytefbmbfhhhjgkaa
