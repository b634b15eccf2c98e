/- Copies of rows; patterns. -/
import Derived.Test.YtefbmbfhhhjgkaaBk
import Derived.WalkSpells
import Derived.StillTailTactics
namespace Go.Proofs.Ytefbmbfhhhjgkaa
open Go.RowKit
variable {F : Nat → Prop}
theorem Try.info_int : (Try.prog.info? 3).map (fun i => (i.zero, i.size, i.bytes)) = some (some (.int .i64 0), 1, 8) := by kernel_rfl
theorem Try.info_sl8 : (Try.prog.info? 63).map (fun i => (i.zero, i.size, i.bytes)) = some (some (.slice none 0 0), 1, 24) := by kernel_rfl
/-- A row that is the call's own, new. -/
def RowOut (t : TypeId) (w : World) (us : List Value) (e : Ending) (w' : World) : Prop := ∃ r, e = .returned r ∧ w'.ownsRow 0 t 1 r us.length us ∧ Below w.heap.size w w' ∧ (∀ k, r.ownBlock = some k → w.heap.size ≤ k)
end Go.Proofs.Ytefbmbfhhhjgkaa
