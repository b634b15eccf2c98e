/- The document's disk in memory. -/
import Derived.Test.YtjldjfipacagdaaRfp
import Derived.Test.YtjldjfipacagdaaBtw
namespace Go.Proofs.Ytjldjfipacagdaa
open Go.RowKit
def svs (l : List (List UInt8)) : List Value := l.map str
def cellsV (l : List (Nat × List UInt8)) : List Value := l.flatMap fun v => [.int .i64 (v.1 : Int), str v.2]
theorem cellsV_app (a b : List (Nat × List UInt8)) : cellsV (a ++ b) = cellsV a ++ cellsV b := List.flatMap_append
theorem cellsV_at (l : List (Nat × List UInt8)) : ∀ {k : Nat} (hk : k < l.length), (cellsV l)[2 * k]? = some (.int .i64 (l[k].1 : Int)) ∧ (cellsV l)[2 * k + 1]? = some (str l[k].2) := by
  induction l with
  | nil => intro k hk; simp at hk
  | cons v l ih =>
    intro k hk
    have e : cellsV (v :: l) = .int .i64 (v.1 : Int) :: str v.2 :: cellsV l := by simp [cellsV]
    rw [e]
    cases k with
    | zero => exact ⟨rfl, rfl⟩
    | succ k =>
      obtain ⟨h1, h2⟩ := ih (k := k) (by simpa using hk)
      rw [show 2 * (k + 1) + 1 = (2 * k + 1) + 1 + 1 by omega, show 2 * (k + 1) = 2 * k + 1 + 1 by omega]
      simp only [List.getElem?_cons_succ, List.getElem_cons_succ]
      exact ⟨h1, h2⟩
theorem svs_one (l : List (List UInt8)) : ∀ u ∈ svs l, u.oneCell' = true := by
  intro u hu
  obtain ⟨b, _, rfl⟩ := List.mem_map.1 hu
  rfl
theorem cellsV_one (l : List (Nat × List UInt8)) : ∀ u ∈ cellsV l, u.oneCell' = true := by
  intro u hu
  unfold cellsV at hu
  obtain ⟨v, _, hu⟩ := List.mem_flatMap.1 hu
  simp at hu
  rcases hu with rfl | rfl <;> rfl
structure RDsk (w : World) (g : Nat) (vl vw vp : Value) (r : Rf) : Prop where
  blk : Blk w g 57 #[vl, vw, .bool r.off, .int .i64 r.armed, vp, .int .i64 r.done]
  row : w.ownsRow 0 9 1 vl r.l.length (svs r.l)
  wt : w.ownsRow 0 79 2 vw r.wait.length (cellsV r.wait)
  pick : RdT (fun _ => True) 3 w vp (ivs r.picks)
def footR (g : Nat) (vl vw : Value) (k : Nat) : Prop := k = g ∨ vl.ownBlock = some k ∨ vw.ownBlock = some k
def RO (w : World) (g : Nat) (r : Rf) (S : Nat → Prop) : Prop := ∃ vl vw vp, RDsk w g vl vw vp r ∧ ∀ k, S k ↔ footR g vl vw k
def kindR (t : Nat) : Prop := t = 57 ∨ t = 9 ∨ t = 79
theorem own_kind {w : World} {base e size n : Nat} {v : Value} {xs : List Value} (h : w.ownsRow base e size v n xs) {k : Nat} (hk : v.ownBlock = some k) : ∃ cs, Blk w k e cs := by
  rcases h.2 with ⟨rfl, _⟩ | ⟨g', cap, cur, rfl, _, hg, _⟩
  · simp [Value.ownBlock] at hk
  · have x : g' = k := by simpa [Value.ownBlock] using hk
    subst x
    exact ⟨cur, hg⟩
theorem own_chgs {w w' : World} {t : TypeId} {s n : Nat} {v : Value} {xs : List Value} {S : Nat → Prop} (h : w.ownsRow 0 t s v n xs) (hc : Chg S w w') (hs : ∀ j, v.ownBlock = some j → ¬ S j) : w'.ownsRow 0 t s v n xs :=
  ⟨h.1, by
    rcases h.2 with h | ⟨g, cap, cur, rfl, hb, hg, rest⟩
    · exact .inl h
    · exact .inr ⟨g, cap, cur, rfl, hb, (hc.block g (Blk.lt hg) (hs g rfl)).trans hg, rest⟩⟩
namespace RDsk
variable {w w' : World} {g : Nat} {vl vw vp : Value} {r : Rf}
theorem kind (h : RDsk w g vl vw vp r) {k : Nat} (hf : footR g vl vw k) : ∃ t cs, Blk w k t cs ∧ kindR t := by
  rcases hf with rfl | hk | hk
  · exact ⟨_, _, h.blk, .inl rfl⟩
  · obtain ⟨cs, hc⟩ := own_kind h.row hk
    exact ⟨_, cs, hc, .inr (.inl rfl)⟩
  · obtain ⟨cs, hc⟩ := own_kind h.wt hk
    exact ⟨_, cs, hc, .inr (.inr rfl)⟩
theorem chg {S : Nat → Prop} (h : RDsk w g vl vw vp r) (hb : Chg S w w') (hS : ∀ k t cs, Blk w k t cs → kindR t ∨ t = 3 → ¬ S k) : RDsk w' g vl vw vp r where
  blk := h.blk.chg hb (hS _ _ _ h.blk (.inl (.inl rfl)))
  row := own_chgs h.row hb fun j hj => by
    obtain ⟨cs, hc⟩ := own_kind h.row hj
    exact hS _ _ _ hc (.inl (.inr (.inl rfl)))
  wt := own_chgs h.wt hb fun j hj => by
    obtain ⟨cs, hc⟩ := own_kind h.wt hj
    exact hS _ _ _ hc (.inl (.inr (.inr rfl)))
  pick := h.pick.chg hb fun k cs hk => hS k _ cs hk (.inr rfl)
theorem below (h : RDsk w g vl vw vp r) (hb : Below w.heap.size w w') : RDsk w' g vl vw vp r :=
  h.chg (S := fun k => w.heap.size ≤ k) (Chg.of_below hb |>.mono (fun _ _ h => h)) (fun k t cs hk _ => Nat.not_le.2 hk.lt)
theorem c0 (h : RDsk w g vl vw vp r) : w.cell? ⟨g, 0, none⟩ = some vl := h.blk.cell 0
theorem c1 (h : RDsk w g vl vw vp r) : w.cell? ⟨g, 1, none⟩ = some vw := h.blk.cell 1
theorem c2 (h : RDsk w g vl vw vp r) : w.cell? ⟨g, 2, none⟩ = some (.bool r.off) := h.blk.cell 2
theorem c3 (h : RDsk w g vl vw vp r) : w.cell? ⟨g, 3, none⟩ = some (.int .i64 r.armed) := h.blk.cell 3
theorem c4 (h : RDsk w g vl vw vp r) : w.cell? ⟨g, 4, none⟩ = some vp := h.blk.cell 4
theorem c5 (h : RDsk w g vl vw vp r) : w.cell? ⟨g, 5, none⟩ = some (.int .i64 r.done) := h.blk.cell 5
/-- The cells of a version that waits. -/
theorem at_ (h : RDsk w g vl vw vp r) {k : Nat} (hk : k < r.wait.length) : ∃ b c, vw = .slice (some ⟨b, 0, none⟩) r.wait.length c ∧ w.cell? ⟨b, k * 2, none⟩ = some (.int .i64 (r.wait[k].1 : Int)) ∧ w.cell? ⟨b, k * 2 + 1, none⟩ = some (str r.wait[k].2) := by
  rcases h.wt.2 with ⟨rfl, h0⟩ | ⟨b, cap, cur, rfl, _⟩
  · omega
  · obtain ⟨h1, h2⟩ := cellsV_at r.wait hk
    have hc := World.ownsRow.cells h.wt rfl
    have q1 := hc _ _ h1
    have q2 := hc _ _ h2
    rw [addr_add_at, Nat.zero_add] at q1 q2
    refine ⟨b, cap, rfl, ?_, ?_⟩
    · rw [Nat.mul_comm]; exact q1
    · rw [Nat.mul_comm]; exact q2
theorem lat (h : RDsk w g vl vw vp r) {k : Nat} (hk : k < r.l.length) : ∃ b c, vl = .slice (some ⟨b, 0, none⟩) r.l.length c ∧ w.cell? ⟨b, k, none⟩ = some (str (r.l.getD k [])) := by
  obtain ⟨b, c, e⟩ := own_at h.row (by omega)
  refine ⟨b, c, e, ?_⟩
  have hr := h.row
  rw [e] at hr
  refine own_cell hr ?_
  unfold svs
  rw [List.getElem?_map, List.getElem?_eq_getElem hk, List.getD_eq_getElem?_getD, List.getElem?_eq_getElem hk]
  rfl
end RDsk
namespace RO
variable {w w' : World} {g : Nat} {r : Rf} {S : Nat → Prop}
theorem kind (h : RO w g r S) {k : Nat} (hf : S k) : ∃ t cs, Blk w k t cs ∧ kindR t := by
  obtain ⟨vl, vw, vp, h, hs⟩ := h
  exact h.kind ((hs k).1 hf)
theorem lt (h : RO w g r S) {k : Nat} (hf : S k) : k < w.heap.size := by
  obtain ⟨t, cs, hb, _⟩ := h.kind hf
  exact hb.lt
theorem chg {S2 : Nat → Prop} (h : RO w g r S) (hb : Chg S2 w w') (hS : ∀ k t cs, Blk w k t cs → kindR t ∨ t = 3 → ¬ S2 k) : RO w' g r S := by
  obtain ⟨vl, vw, vp, h, hs⟩ := h
  exact ⟨vl, vw, vp, h.chg hb hS, hs⟩
theorem below (h : RO w g r S) (hb : Below w.heap.size w w') : RO w' g r S := by
  obtain ⟨vl, vw, vp, h, hs⟩ := h
  exact ⟨vl, vw, vp, h.below hb, hs⟩
theorem drewN (h : RO w g r S) (n : Nat) : RO (w.drewN n) g r S := h.below (by exact ⟨rfl, rfl, rfl, Nat.le_refl _, fun _ _ => rfl⟩)
theorem notk (h : RO w g r S) {t : Nat} (ht : ¬ kindR t) : ∀ k cs, Blk w k t cs → ¬ S k := fun k cs hb hf => by
  obtain ⟨t', cs', hb', hk⟩ := h.kind hf
  unfold Blk at hb hb'
  rw [hb] at hb'
  injection hb' with hb'
  injection hb' with _ e
  exact ht (e ▸ hk)
end RO
def WroteR (w : World) (S : Nat → Prop) (g : Nat) (r : Rf) (w' : World) : Prop := ∃ S', RO w' g r S' ∧ Chg S w w' ∧ ∀ k, S' k → S k ∨ w.heap.size ≤ k
theorem WroteR.refl {w : World} {S : Nat → Prop} {g : Nat} {r : Rf} (h : RO w g r S) : WroteR w S g r w := ⟨S, h, Chg.refl _ _, fun _ h => .inl h⟩
theorem WroteR.from {w w1 w' : World} {S : Nat → Prop} {g : Nat} {r : Rf} (hB : Below w.heap.size w w1) (h : WroteR w1 S g r w') : WroteR w S g r w' := by
  obtain ⟨S', hd, hc, hs⟩ := h
  exact ⟨S', hd, ((Chg.of_below hB).mono (fun _ _ h => h)).trans hc, fun k hk => (hs k hk).imp id fun h => Nat.le_trans hB.size h⟩
/-- What the struct's own cells are set to. -/
theorem RDsk.put {w w' : World} {g : Nat} {vl vw vp vp' : Value} {r r' : Rf} (h : RDsk w g vl vw vp r) (hc : Chg (fun k => k = g) w w')
    (hb : Blk w' g 57 #[vl, vw, .bool r'.off, .int .i64 r'.armed, vp', .int .i64 r'.done]) (hl : r'.l = r.l) (hw : r'.wait = r.wait) (hp : RdT (fun _ => True) 3 w' vp' (ivs r'.picks)) : RDsk w' g vl vw vp' r' where
  blk := hb
  row := by
    rw [hl]
    exact own_chgs h.row hc fun j hj e => by
      subst e
      obtain ⟨cs, hk⟩ := own_kind h.row hj
      exact absurd rfl (hk.ne_ h.blk (by decide))
  wt := by
    rw [hw]
    exact own_chgs h.wt hc fun j hj e => by
      subst e
      obtain ⟨cs, hk⟩ := own_kind h.wt hj
      exact absurd rfl (hk.ne_ h.blk (by decide))
  pick := hp
theorem RDsk.pick_g {w w' : World} {g : Nat} {vl vw vp : Value} {r : Rf} (h : RDsk w g vl vw vp r) (hc : Chg (fun k => k = g) w w') : RdT (fun _ => True) 3 w' vp (ivs r.picks) :=
  h.pick.chg hc fun k cs hk e => by
    subst e
    exact absurd rfl (hk.ne_ h.blk (by decide))
theorem RDsk.wrote {w w' : World} {g : Nat} {vl vw vp' : Value} {r' : Rf} {S : Nat → Prop} (hs : ∀ k, S k ↔ footR g vl vw k) (h : RDsk w' g vl vw vp' r') (hc : Chg (fun k => k = g) w w') : WroteR w S g r' w' :=
  ⟨S, ⟨vl, vw, vp', h, hs⟩, hc.mono fun k _ e => e ▸ (hs g).2 (.inl rfl), fun k hk => .inl hk⟩
end Go.Proofs.Ytjldjfipacagdaa
