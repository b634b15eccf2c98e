/- The library's sorted keys of a map[int][]byte, laid at this program. -/
import Derived.Test.YtefbmbfhhhjgkaaWh
namespace Go.Proofs.Ytefbmbfhhhjgkaa
open Go.RowKit Go.Maps Go.Sort Go.Shelf
def keysB_ren : Go.Shelf.Ren := ⟨fun | 7 => 61 | 10 => 81 | n => n, fun | 23 => 72 | 26 => 3 | 3 => 63 | 28 => 91 | 0 => 0 | 27 => 90 | 33 => 42 | 4 => 4 | n => n, fun n => n⟩
theorem keysB : SlLaysZI.n7 Try.prog keysB_ren := {
  mixed := by kernel_rfl,
  f7 := ⟨Try.f61.name, by decide, Try.func61.trans (congrArg some (by kernel_rfl))⟩,
  f10 := ⟨Try.f81.name, by decide, Try.func81.trans (congrArg some (by kernel_rfl))⟩,
  t0 := Try.underlying0,
  a0 := Try.isAgg0,
  z0 := Try.sizeOf0,
  v0 := Try.zeroValue0,
  t4 := Try.underlying4,
  a4 := Try.isAgg4,
  z4 := Try.sizeOf4,
  v4 := Try.zeroValue4,
  t23 := Try.underlying72,
  a23 := Try.isAgg72,
  z23 := Try.sizeOf72,
  v23 := Try.zeroValue72,
  t26 := Try.underlying3,
  a26 := Try.isAgg3,
  z26 := Try.sizeOf3,
  v26 := Try.zeroValue3,
  t27 := Try.underlying90,
  a27 := Try.isAgg90,
  z27 := Try.sizeOf90,
  v27 := Try.zeroValue90,
  t28 := Try.underlying91,
  a28 := Try.isAgg91,
  z28 := Try.sizeOf91,
  v28 := Try.zeroValue91,
  t33 := Try.underlying42,
  a33 := Try.isAgg42,
  z33 := Try.sizeOf42,
  v33 := Try.zeroValue42 }
theorem keysB_calls (w : World) (mb : Option Nat) : Calls Try.prog 61 #[.map mb] w fun e w' => e = .returned (.func (.func 81) #[] #[.pointer (some ⟨w.heap.size, 0, none⟩)]) ∧ w' = w.alloc (.cells #[.map mb] 72) :=
  callsIn_wide.1 (AnyZI.keys_in keysB Fence.wide 5 trivial rfl mb w)
set_option maxRecDepth 10000 in
set_option maxHeartbeats 1000000 in
theorem sortedB_calls {H : Type} (b nn : Nat) (D0 : DataW H) (R : Value → Option (DataW H × List MemPlace)) (w : World) (hown : w.ownsMap Try.prog 3 R b nn D0) (hmax : Maps.size D0 ≤ maxLen) (hbytes : Maps.size D0 * 8 ≤ 140737488355328) :
    Calls Try.prog 60 #[.func (.func 81) #[] #[.pointer (some ⟨w.heap.size, 0, none⟩)]] (w.alloc (.cells #[.map (some b)] 72)) fun e w' => ∃ (v : Value) (ss : List Int), e = .returned v ∧ ss.Perm (intKeys D0) ∧
      w'.ownsRow (w.heap.size + 1) 3 1 v ss.length ((ss.mergeSort (fun x y => decide (x ≤ y))).map encZ) ∧ Below (w.heap.size + 1) (w.alloc (.cells #[.map (some b)] 72)) w' := by
  have hbl := hown.lt
  have hseq : SeqGives Fence.wide 2 Try.prog 81 #[.pointer (some ⟨w.heap.size, 0, none⟩)] encZ (fun ss => ss.Perm (intKeys D0)) (Maps.size D0) (w.alloc (.cells #[.map (some b)] 72)) :=
    AnyZI.keys_gives (ρ := keysB_ren) { keysB with } Fence.wide _ trivial rfl (by omega) w.heap.size b nn D0 _ (by simp) (by simp) (by
      obtain ⟨es, clock, hb, Ft, hs, hD⟩ := hown
      exact ⟨es, clock, (Below.heap_alloc _ _ b hbl).trans hb, Ft, hs, hD⟩)
  have cS := AnyZI.sorted_in sortedA Fence.wide 5 trivial trivial trivial trivial rfl (by omega) (sortsA _) (enters_of Try.func80 (by kernel_rfl) rfl) 81 #[.pointer (some ⟨w.heap.size, 0, none⟩)] trivial (enters_of Try.func81 (by kernel_rfl) rfl) _ _ hmax hbytes _ hseq
  change CallsIn _ _ Try.prog 60 _ _ _ at cS
  refine (callsIn_wide.1 cS).mono ?_
  rintro e w' ⟨v, ss, rfl, hS, hrow, _, hb⟩
  have e1 : (w.alloc (.cells #[.map (some b)] 72)).heap.size = w.heap.size + 1 := by simp
  rw [e1] at hrow hb
  exact ⟨v, ss, rfl, hS, hrow, hb⟩
end Go.Proofs.Ytefbmbfhhhjgkaa
