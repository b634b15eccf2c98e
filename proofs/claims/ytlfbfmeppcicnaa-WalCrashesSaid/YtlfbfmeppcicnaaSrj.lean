/- The library's sorted keys of a map[int][]byte, laid at this program. -/
import Derived.Test.YtlfbfmeppcicnaaWh
namespace Go.Proofs.Ytlfbfmeppcicnaa
open Go.RowKit Go.Maps Go.Sort Go.Shelf
def keysB_ren : Go.Shelf.Ren := ⟨fun | 7 => 51 | 10 => 84 | n => n, fun | 23 => 86 | 26 => 3 | 3 => 32 | 28 => 95 | 0 => 0 | 27 => 94 | 33 => 30 | 4 => 4 | n => n, fun n => n⟩
theorem keysB : SlLaysZI.n7 Try.prog keysB_ren := {
  mixed := by kernel_rfl,
  f7 := ⟨Try.f51.name, by decide, Try.func51.trans (congrArg some (by kernel_rfl))⟩,
  f10 := ⟨Try.f84.name, by decide, Try.func84.trans (congrArg some (by kernel_rfl))⟩,
  t0 := Try.underlying0,
  a0 := Try.isAgg0,
  z0 := Try.sizeOf0,
  v0 := Try.zeroValue0,
  t4 := Try.underlying4,
  a4 := Try.isAgg4,
  z4 := Try.sizeOf4,
  v4 := Try.zeroValue4,
  t23 := Try.underlying86,
  a23 := Try.isAgg86,
  z23 := Try.sizeOf86,
  v23 := Try.zeroValue86,
  t26 := Try.underlying3,
  a26 := Try.isAgg3,
  z26 := Try.sizeOf3,
  v26 := Try.zeroValue3,
  t27 := Try.underlying94,
  a27 := Try.isAgg94,
  z27 := Try.sizeOf94,
  v27 := Try.zeroValue94,
  t28 := Try.underlying95,
  a28 := Try.isAgg95,
  z28 := Try.sizeOf95,
  v28 := Try.zeroValue95,
  t33 := Try.underlying30,
  a33 := Try.isAgg30,
  z33 := Try.sizeOf30,
  v33 := Try.zeroValue30 }
theorem keysB_calls (w : World) (mb : Option Nat) : Calls Try.prog 51 #[.map mb] w fun e w' => e = .returned (.func (.func 84) #[] #[.pointer (some ⟨w.heap.size, 0, none⟩)]) ∧ w' = w.alloc (.cells #[.map mb] 86) :=
  callsIn_wide.1 (AnyZI.keys_in keysB Fence.wide 5 trivial rfl mb w)
set_option maxRecDepth 10000 in
set_option maxHeartbeats 1000000 in
theorem sortedB_calls {H : Type} (b nn : Nat) (D0 : DataW H) (R : Value → Option (DataW H × List MemPlace)) (w : World) (hown : w.ownsMap Try.prog 3 R b nn D0) (hmax : Maps.size D0 ≤ maxLen) (hbytes : Maps.size D0 * 8 ≤ 140737488355328) :
    Calls Try.prog 50 #[.func (.func 84) #[] #[.pointer (some ⟨w.heap.size, 0, none⟩)]] (w.alloc (.cells #[.map (some b)] 86)) fun e w' => ∃ (v : Value) (ss : List Int), e = .returned v ∧ ss.Perm (intKeys D0) ∧
      w'.ownsRow (w.heap.size + 1) 3 1 v ss.length ((ss.mergeSort (fun x y => decide (x ≤ y))).map encZ) ∧ Below (w.heap.size + 1) (w.alloc (.cells #[.map (some b)] 86)) w' := by
  have hbl := hown.lt
  have hseq : SeqGives Fence.wide 2 Try.prog 84 #[.pointer (some ⟨w.heap.size, 0, none⟩)] encZ (fun ss => ss.Perm (intKeys D0)) (Maps.size D0) (w.alloc (.cells #[.map (some b)] 86)) :=
    AnyZI.keys_gives (ρ := keysB_ren) { keysB with } Fence.wide _ trivial rfl (by omega) w.heap.size b nn D0 _ (by simp) (by simp) (by
      obtain ⟨es, clock, hb, Ft, hs, hD⟩ := hown
      exact ⟨es, clock, (Below.heap_alloc _ _ b hbl).trans hb, Ft, hs, hD⟩)
  have cS := AnyZI.sorted_in sortedA Fence.wide 5 trivial trivial trivial trivial rfl (by omega) (sortsA _) (enters_of Try.func83 (by kernel_rfl) rfl) 84 #[.pointer (some ⟨w.heap.size, 0, none⟩)] trivial (enters_of Try.func84 (by kernel_rfl) rfl) _ _ hmax hbytes _ hseq
  change CallsIn _ _ Try.prog 50 _ _ _ at cS
  refine (callsIn_wide.1 cS).mono ?_
  rintro e w' ⟨v, ss, rfl, hS, hrow, _, hb⟩
  have e1 : (w.alloc (.cells #[.map (some b)] 86)).heap.size = w.heap.size + 1 := by simp
  rw [e1] at hrow hb
  exact ⟨v, ss, rfl, hS, hrow, hb⟩
end Go.Proofs.Ytlfbfmeppcicnaa
