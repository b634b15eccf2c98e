/- Slices that lie in blocks of one element type; rows that a call makes. -/
import Derived.Test.YtefbmbfhhhjgkaaMp
import Derived.Laws.MakeOwn
namespace Go.Proofs.Ytefbmbfhhhjgkaa
open Go.RowKit
variable {F : Nat → Prop}
/-- The slice reads as us and lies, where it holds anything, in a row of element type t, in a block of F. -/
def RdT (F : Nat → Prop) (t : TypeId) (w : World) (v : Value) (us : List Value) : Prop := Rd w v us ∧ (us ≠ [] → ∃ k cs, v.ownBlock = some k ∧ Blk w k t cs ∧ F k)
theorem Rd.empty {w : World} {v : Value} (h : Rd w v []) (w' : World) : Rd w' v [] := by
  obtain ⟨A, c, rfl, _⟩ := h
  exact Rd.nil _ _ _
namespace RdT
variable {t : TypeId} {w w' : World} {v : Value} {us : List Value}
theorem chg {S : Nat → Prop} (h : RdT F t w v us) (hb : Chg S w w') (hs : ∀ k cs, Blk w k t cs → ¬ S k) : RdT F t w' v us := by
  by_cases hu : us = []
  · subst hu
    exact ⟨h.1.empty _, fun h => absurd rfl h⟩
  · obtain ⟨k, cs, e, hk, hF⟩ := h.2 hu
    exact ⟨h.1.chg hb (fun j hj => by rw [e] at hj; cases hj; exact hs k cs hk), fun _ => ⟨k, cs, e, hk.chg hb (hs k cs hk), hF⟩⟩
theorem chgF {S : Nat → Prop} (h : RdT F t w v us) (hb : Chg S w w') (hs : ∀ k, F k → ¬ S k) : RdT F t w' v us := by
  by_cases hu : us = []
  · subst hu
    exact ⟨h.1.empty _, fun h => absurd rfl h⟩
  · obtain ⟨k, cs, e, hk, hF⟩ := h.2 hu
    exact ⟨h.1.chg hb (fun j hj => by rw [e] at hj; cases hj; exact hs k hF), fun _ => ⟨k, cs, e, hk.chg hb (hs k hF), hF⟩⟩
theorem wider {F' : Nat → Prop} (h : RdT F t w v us) (hF : ∀ k, F k → k < w.heap.size → F' k) : RdT F' t w v us :=
  ⟨h.1, fun hne => by
    obtain ⟨k, cs, e, hk, hf⟩ := h.2 hne
    exact ⟨k, cs, e, hk, hF k hf hk.lt⟩⟩
theorem below (h : RdT F t w v us) (hb : Below w.heap.size w w') : RdT F t w' v us :=
  h.chg (S := fun k => w.heap.size ≤ k) (Chg.of_below hb |>.mono (fun _ _ h => h)) (fun k cs hk => Nat.not_le.2 hk.lt)
theorem alloc (h : RdT F t w v us) (o : Obj) : RdT F t (w.alloc o) v us := h.below ((Below.refl _ _).alloc (Nat.le_refl _) _)
theorem drewN (h : RdT F t w v us) (n : Nat) : RdT F t (w.drewN n) v us := h
theorem far (h : RdT F t w v us) {p : Addr} (hp : ∀ cs, ¬ Blk w p.block t cs) (u : Value) : RdT F t (w.setCell p u) v us :=
  h.chg (S := fun k => k = p.block) ((Chg.refl (fun k => k = p.block) w).setCell (fun _ => rfl) u) (fun k cs hk e => by subst e; exact hp cs hk)
theorem of_own {base n : Nat} (h : w.ownsRow base t 1 v n us) (hF : ∀ k, v.ownBlock = some k → F k) : RdT F t w v us := by
  refine ⟨Rd.of_own h, fun hne => ?_⟩
  rcases h.2 with ⟨_, hn⟩ | ⟨g, cap, cur, rfl, _, hg, _⟩
  · exact absurd (List.eq_nil_of_length_eq_zero (by simpa [hn] using h.1)) hne
  · exact ⟨g, cur, rfl, hg, hF g rfl⟩
theorem nil (t : TypeId) (w : World) : RdT F t w (.slice none 0 0) [] := ⟨Rd.nil _ _ _, fun h => absurd rfl h⟩
theorem shape (h : RdT F t w v us) : ∃ A c, v = .slice A us.length c := by
  obtain ⟨⟨A, c, e, _⟩, _⟩ := h
  exact ⟨A, c, e⟩
end RdT
theorem chg_set {w : World} (p : Addr) (u : Value) : Chg (fun k => k = p.block) w (w.setCell p u) := (Chg.refl (fun k => k = p.block) w).setCell (fun _ => rfl) u
theorem run_mkr {P : Program} (t e : TypeId) (i : TypeInfo) (z : Value) (ht : P.underlying t = some (.slice e)) (hi : P.info? e = some i) (hz : i.zero = some z) (hzc : z.cells = #[z]) (hs : i.size = 1)
    (k : Nat) (hk : i.bytes * k ≤ 281474976710656) (h63 : k ≤ 9223372036854775807) (w : World) :
    (Instr.makeSlice t (.int .i64 (k : Int)) (.int .i64 (k : Int))).run P w = .ok (.slice (some ⟨w.heap.size, 0, none⟩) k k) (w.alloc (.cells (List.replicate k z).toArray e)) := by
  have hb : (i.bytes : Int) * (k : Int) ≤ 281474976710656 := by
    have h : ((i.bytes * k : Nat) : Int) ≤ 281474976710656 := by omega
    rwa [Int.natCast_mul] at h
  have hr := run_make (P := P) w t e i z ht hi hz .i64 .i64 k k (by omega) (by omega) hb (by omega)
  simp only [Int.toNat_natCast, hs, Nat.mul_one, hzc] at hr
  rw [hr]
  congr 2
  congr 1
  apply Array.ext'
  rw [toList_madeCells_one]
theorem own_mkr (w : World) (e : TypeId) (us : List Value) (k : Nat) (hu : us.length = k) (hk : k ≤ 1000000000000) : (w.alloc (.cells us.toArray e)).ownsRow 0 e 1 (.slice (some ⟨w.heap.size, 0, none⟩) k k) k us := by
  subst hu
  exact ⟨by simp, .inr ⟨w.heap.size, us.length, _, rfl, Nat.zero_le _, heap_alloc_new w _, Nat.le_refl _, by unfold maxLen; omega, by simp, by simp⟩⟩
/-- A row that is not nil: where it lies. -/
theorem own_blk {w : World} {base e n g c : Nat} {us : List Value} (h : w.ownsRow base e 1 (.slice (some ⟨g, 0, none⟩) n c) n us) : ∃ cs, Blk w g e cs := by
  rcases h.2 with ⟨h1, _⟩ | ⟨g', cap, cur, h1, _, hg, _⟩
  · cases h1
  · injection h1 with h1
    injection h1 with h1
    injection h1 with h1
    subst h1
    exact ⟨cur, hg⟩
theorem own_cell {w : World} {base e n g c : Nat} {us : List Value} (h : w.ownsRow base e 1 (.slice (some ⟨g, 0, none⟩) n c) n us) {i : Nat} {u : Value} (hi : us[i]? = some u) : w.cell? ⟨g, i, none⟩ = some u := by
  have := World.ownsRow.cells h rfl i u hi
  rwa [addr_add_at, Nat.zero_add] at this
theorem own_keep {w w' : World} {base e n g c : Nat} {us : List Value} (h : w.ownsRow base e 1 (.slice (some ⟨g, 0, none⟩) n c) n us) (hk : w'.heap[g]? = w.heap[g]?) : w'.ownsRow base e 1 (.slice (some ⟨g, 0, none⟩) n c) n us := by
  refine ⟨h.1, ?_⟩
  rcases h.2 with ⟨h1, _⟩ | ⟨g', cap, cur, h1, hb, hg, h2⟩
  · cases h1
  · refine .inr ⟨g', cap, cur, h1, hb, ?_, h2⟩
    injection h1 with h1
    injection h1 with h1
    injection h1 with h1
    subst h1
    exact hk.trans hg
theorem own_at {w : World} {base e n : Nat} {v : Value} {us : List Value} (h : w.ownsRow base e 1 v n us) (hn : 0 < n) : ∃ g c, v = .slice (some ⟨g, 0, none⟩) n c := by
  rcases h.2 with ⟨_, h1⟩ | ⟨g', cap, cur, h1, hb, hg, h2⟩
  · omega
  · exact ⟨g', cap, h1⟩
theorem run_slice3 {P : Program} (w : World) (t e : TypeId) (i : TypeInfo) (ht : P.underlying t = some (.slice e)) (hi : P.info? e = some i) (hs : i.size = 1) (A : Option Addr) (len cap l h m : Nat) {x y z : Int} (hx : x = l) (hy : y = h) (hz : z = m) (h1 : l ≤ h) (h2 : h ≤ m) (h3 : m ≤ cap) (h4 : l < m) :
    (Instr.slice t (.slice A len cap) (some (.int .i64 x)) (some (.int .i64 y)) (some (.int .i64 z))).run P w = .ok (.slice (A.map (·.add l)) (h - l) (m - l)) w := by
  subst hx hy hz
  have b1 : (0 : Int) ≤ (m : Int) ∧ (m : Int) ≤ (cap : Int) := by omega
  have b2 : (0 : Int) ≤ (h : Int) ∧ (h : Int) ≤ (m : Int) := by omega
  have b3 : (0 : Int) ≤ (l : Int) ∧ (l : Int) ≤ (h : Int) := by omega
  have b4 : ¬ (m = l) := by omega
  simp [Instr.slice, Instr.sliceBounds, Instr.sliceBound, run_underlying ht, sizeOf, typeInfo, hi, hs, asIntOf, h1, h2, h3, b4]
end Go.Proofs.Ytefbmbfhhhjgkaa
