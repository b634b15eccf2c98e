/- Copies of rows; patterns. -/
import Derived.Test.YtlfbfmeppcicnaaBk
import Derived.WalkSpells
import Derived.StillTailTactics
namespace Go.Proofs.Ytlfbfmeppcicnaa
open Go.RowKit
variable {F : Nat → Prop}
theorem Try.info_int : (Try.prog.info? 3).map (fun i => (i.zero, i.size, i.bytes)) = some (some (.int .i64 0), 1, 8) := by kernel_rfl
theorem Try.info_sl8 : (Try.prog.info? 32).map (fun i => (i.zero, i.size, i.bytes)) = some (some (.slice none 0 0), 1, 24) := by kernel_rfl
/-- A row that is the call's own, new. -/
def RowOut (t : TypeId) (w : World) (us : List Value) (e : Ending) (w' : World) : Prop := ∃ r, e = .returned r ∧ w'.ownsRow 0 t 1 r us.length us ∧ Below w.heap.size w w' ∧ (∀ k, r.ownBlock = some k → w.heap.size ≤ k)
set_option maxRecDepth 10000 in
set_option maxHeartbeats 400000 in
theorem CloneI_calls (w : World) (x : Value) (us : List Value) (hx : Rd w x us) (hl : us.length ≤ 1000000000) (h1 : ∀ u ∈ us, u.oneCell' = true) :
    Calls Try.prog 60 #[x] w (RowOut 3 w us) := by
  obtain ⟨i0, hi, hz0, hz1, hz2⟩ := info_parts Try.info_int
  have hx0 := hx
  obtain ⟨A, c, rfl, hc, hr⟩ := hx
  have he : ∀ W : World, (binOp .eql 31 (.slice A us.length c) (.slice none 0 0)).run Try.prog W = .ok (.bool A.isNone) W := fun W => Lib.run_eql_slice_nil (P := Try.prog) W 31 3 A us.length c 0 0 Try.underlying31
  rcases A with _ | ad
  · have hu : us = [] := by
      by_cases hu : us = []
      · exact hu
      · obtain ⟨ad, h, _⟩ := hr hu
        cases h
    subst hu
    simp only [Option.isNone_none, List.length_nil] at he
    clear h1 hr hx0 hc hl
    go_enter Try.func60, Try.ntmps60
    go_wp2
    go_ret
    exact ⟨_, rfl, World.ownsRow_nil _ _ _ _, Below.refl _ _, fun k hk => by simp [Value.ownBlock] at hk⟩
  · simp only [Option.isNone_some] at he
    have ho : (w.alloc (.cells #[] 3)).ownsRow 0 3 1 (.slice (some ⟨w.heap.size, 0, none⟩) 0 0) 0 [] := World.ownsRow_made w #[] 0 (Nat.zero_le _) (by unfold maxLen; omega) rfl
    have hx1 := Lib.hid (hx0.alloc (.cells #[] 3))
    have h1 := Lib.hid h1
    have hl := Lib.hid hl
    clear hr hx0 hc
    go_enter Try.func60, Try.ntmps60
    go_wp2_with (at_builtin; refine stop_app rfl ?_)
    refine Stop.mk (wpList_app _ rfl rfl Try.underlying31 hi hz0 hz1 hz2 rfl ho rfl hx1.out rfl h1.out ?_ ?_ (Nat.zero_le _) ?_)
    · have := hl.out; unfold maxLen; omega
    · have := hl.out; omega
    intro v1 w1 hown hg hat
    go_wp2
    go_ret
    refine ⟨v1, rfl, ?_, ((Below.refl _ _).alloc (Nat.le_refl _) _).grown hg (by simp) (fun k hk => ?_), fun k hk => ?_⟩
    · simpa using hown
    · simp [Value.ownBlock] at hk; omega
    · rcases hat with e | e <;> rw [hk] at e <;> simp [Value.ownBlock] at e <;> omega
end Go.Proofs.Ytlfbfmeppcicnaa
