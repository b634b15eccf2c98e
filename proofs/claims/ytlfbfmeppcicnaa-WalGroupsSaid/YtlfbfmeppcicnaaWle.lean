/- The log's laws: a caller's row of texts that grows. -/
import Derived.Test.YtlfbfmeppcicnaaWld
namespace Go.Proofs.Ytlfbfmeppcicnaa
open Go.RowKit
theorem Try.info_str : (Try.prog.info? 9).map (fun i => (i.zero, i.size, i.bytes)) = some (some (.string ⟨#[]⟩), 1, 16) := by kernel_rfl
theorem LC.app {W0 w w' : World} {gl g N n : Nat} {x : Lk} {V : Nat → List UInt8} {v v' : Value} {t : TypeId} {us us' : List Value} (h : LC W0 w gl g N x V fun k => v.ownBlock = some k) (hown : w.ownsRow W0.heap.size t 1 v n us) (ht : 5 ≠ t ∧ 3 ≠ t)
    (hg : w.grownBy w' v.ownBlock) (hat : v'.ownBlock = v.ownBlock ∨ v'.ownBlock = some w.heap.size) {n' : Nat} (hown' : w'.ownsRow W0.heap.size t 1 v' n' us') : LC W0 w' gl g N x V fun k => v'.ownBlock = some k := by
  obtain ⟨S, F, h1, h2⟩ := h.ex
  have hc : Chg (fun k => v.ownBlock = some k) w w' := (Chg.refl _ w).grown hg (fun k hk _ => hk)
  have hty : ∀ k tt cs, Blk w k tt cs → tt ≠ t → ¬ v.ownBlock = some k := fun k tt cs hb hne hk => by
    obtain ⟨cs2, hb2⟩ := own_kindI hown hk
    exact absurd rfl (hb.ne_ hb2 hne)
  refine ⟨⟨S, F, h1.chgT hc (fun k hk hz => (h2 k hk).2 hz) (fun k cs hb => hty k _ cs hb ht.1) (fun k cs hb => hty k _ cs hb ht.2), fun k hk => ⟨(h2 k hk).1, fun hv => ?_⟩⟩, h.la, below_chg h.bel hc (fun k hk => own_geI hown k hk), fun k hk => (World.ownsRow.lt hown' k hk).2⟩
  rcases hat with e | e
  · rw [e] at hv
    exact (h2 k hk).2 hv
  · rw [e] at hv
    cases hv
    exact absurd (h1.lt hk) (Nat.lt_irrefl _)
theorem LC.nilX {W0 w : World} {gl g N : Nat} {x : Lk} {V : Nat → List UInt8} (h : LC W0 w gl g N x V fun _ => False) : LC W0 w gl g N x V fun k => (Value.slice none 0 0).ownBlock = some k := h.less fun k hk => by simp [Value.ownBlock] at hk
theorem datL_fresh (N : Nat) (d d' : Dk) (p : Int) (o : Bool) (V : Nat → List UInt8) : datL N (freshK d) V = datL N ⟨d', fun _ => none, p, o⟩ V := rfl
theorem Rd.keepX {w w' : World} {v : Value} {us : List Value} (h : Rd w v us) (hk : KeepX (fun k => v.ownBlock = some k) w w') : Rd w' v us := h.keep fun k hv _ => hk k hv
end Go.Proofs.Ytlfbfmeppcicnaa
