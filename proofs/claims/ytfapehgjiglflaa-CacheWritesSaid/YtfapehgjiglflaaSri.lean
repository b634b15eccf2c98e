/- The library's sorted keys of a map keyed by int, laid at this program. -/
import Derived.Test.YtfapehgjiglflaaByt
import Derived.Maps.OwnSet
import Derived.Shelf.SlIterI.Nil
import Derived.Shelf.SortM.Plain
import Derived.Shelf.SortM.SortNone
namespace Go.Proofs.Ytfapehgjiglflaa
open Go.RowKit Go.Maps Go.Sort Go.Shelf
def keysA_ren : Go.Shelf.Ren := ⟨fun | 7 => 73 | 10 => 80 | n => n, fun | 23 => 72 | 26 => 3 | 3 => 71 | 28 => 107 | 0 => 0 | 27 => 106 | 33 => 85 | 4 => 4 | n => n, fun n => n⟩
theorem keysA : SlLaysZI.n7 Try.prog keysA_ren := {
  mixed := by kernel_rfl,
  f7 := ⟨Try.f73.name, by decide, Try.func73.trans (congrArg some (by kernel_rfl))⟩,
  f10 := ⟨Try.f80.name, by decide, Try.func80.trans (congrArg some (by kernel_rfl))⟩,
  t0 := Try.underlying0,
  a0 := Try.isAgg0,
  z0 := Try.sizeOf0,
  v0 := Try.zeroValue0,
  t4 := Try.underlying4,
  a4 := Try.isAgg4,
  z4 := Try.sizeOf4,
  v4 := Try.zeroValue4,
  t23 := Try.underlying72,
  a23 := Try.isAgg72,
  z23 := Try.sizeOf72,
  v23 := Try.zeroValue72,
  t26 := Try.underlying3,
  a26 := Try.isAgg3,
  z26 := Try.sizeOf3,
  v26 := Try.zeroValue3,
  t27 := Try.underlying106,
  a27 := Try.isAgg106,
  z27 := Try.sizeOf106,
  v27 := Try.zeroValue106,
  t28 := Try.underlying107,
  a28 := Try.isAgg107,
  z28 := Try.sizeOf107,
  v28 := Try.zeroValue107,
  t33 := Try.underlying85,
  a33 := Try.isAgg85,
  z33 := Try.sizeOf85,
  v33 := Try.zeroValue85 }
def sortedA_ren : Go.Shelf.Ren := ⟨fun | 6 => 72 | 8 => 79 | 9 => 61 | 11 => 92 | 13 => 77 | 12 => 76 | 23 => 90 | 24 => 91 | 14 => 81 | 15 => 82 | 16 => 83 | 17 => 84 | 18 => 85 | 19 => 86 | 20 => 87 | 21 => 88 | 22 => 89 | 25 => 93 | 26 => 94 | 27 => 95 | 28 => 96 | 29 => 97 | 30 => 98 | 31 => 99 | n => n, fun | 26 => 3 | 28 => 107 | 24 => 22 | 0 => 0 | 3 => 3 | 37 => 115 | 48 => 125 | 50 => 127 | 4 => 4 | 40 => 118 | 39 => 117 | 45 => 103 | 5 => 5 | 9 => 9 | 51 => 129 | 55 => 133 | 57 => 135 | 58 => 136 | 33 => 85 | n => n, fun n => n⟩
theorem sortedA : SlLaysZI.n6 Try.prog sortedA_ren := {
  mixed := by kernel_rfl,
  f6 := ⟨Try.f72.name, by decide, Try.func72.trans (congrArg some (by kernel_rfl))⟩,
  f8 := ⟨Try.f79.name, by decide, Try.func79.trans (congrArg some (by kernel_rfl))⟩,
  f11 := ⟨Try.f92.name, by decide, Try.func92.trans (congrArg some (by kernel_rfl))⟩,
  t0 := Try.underlying0,
  a0 := Try.isAgg0,
  z0 := Try.sizeOf0,
  v0 := Try.zeroValue0,
  t24 := Try.underlying22,
  a24 := Try.isAgg22,
  z24 := Try.sizeOf22,
  v24 := Try.zeroValue22,
  t26 := Try.underlying3,
  a26 := Try.isAgg3,
  z26 := Try.sizeOf3,
  v26 := Try.zeroValue3,
  t28 := Try.underlying107,
  a28 := Try.isAgg107,
  z28 := Try.sizeOf107,
  v28 := Try.zeroValue107,
  i26 := by kernel_rfl }
def sortA_ren : Go.Shelf.Ren := ⟨fun | 5 => 61 | 8 => 77 | 7 => 76 | 19 => 90 | 20 => 91 | 10 => 81 | 11 => 82 | 12 => 83 | 13 => 84 | 14 => 85 | 15 => 86 | 16 => 87 | 17 => 88 | 18 => 89 | 30 => 93 | 31 => 94 | 32 => 95 | 33 => 96 | 34 => 97 | 35 => 98 | 40 => 99 | n => n, fun | 23 => 22 | 25 => 3 | 3 => 3 | 32 => 115 | 22 => 22 | 0 => 0 | 44 => 125 | 46 => 127 | 4 => 4 | 36 => 118 | 35 => 117 | 41 => 103 | 5 => 5 | 9 => 9 | 53 => 129 | 57 => 133 | 63 => 135 | 64 => 136 | n => n, fun n => n⟩
theorem sortA : SlLaysM.n5 Try.prog sortA_ren := {
  mixed := by kernel_rfl,
  f5 := ⟨Try.f61.name, by decide, Try.func61.trans (congrArg some (by kernel_rfl))⟩,
  f7 := ⟨Try.f76.name, by decide, Try.func76.trans (congrArg some (by kernel_rfl))⟩,
  f8 := Try.func77.trans (congrArg some (by kernel_rfl)),
  f10 := ⟨Try.f81.name, by decide, Try.func81.trans (congrArg some (by kernel_rfl))⟩,
  f11 := ⟨Try.f82.name, by decide, Try.func82.trans (congrArg some (by kernel_rfl))⟩,
  f12 := ⟨Try.f83.name, by decide, Try.func83.trans (congrArg some (by kernel_rfl))⟩,
  f13 := ⟨Try.f84.name, by decide, Try.func84.trans (congrArg some (by kernel_rfl))⟩,
  f14 := ⟨Try.f85.name, by decide, Try.func85.trans (congrArg some (by kernel_rfl))⟩,
  f15 := ⟨Try.f86.name, by decide, Try.func86.trans (congrArg some (by kernel_rfl))⟩,
  f16 := ⟨Try.f87.name, by decide, Try.func87.trans (congrArg some (by kernel_rfl))⟩,
  f17 := ⟨Try.f88.name, by decide, Try.func88.trans (congrArg some (by kernel_rfl))⟩,
  f18 := ⟨Try.f89.name, by decide, Try.func89.trans (congrArg some (by kernel_rfl))⟩,
  f19 := Try.func90.trans (congrArg some (by kernel_rfl)),
  f20 := Try.func91.trans (congrArg some (by kernel_rfl)),
  f30 := ⟨Try.f93.name, by decide, Try.func93.trans (congrArg some (by kernel_rfl))⟩,
  f31 := Try.func94.trans (congrArg some (by kernel_rfl)),
  f32 := Try.func95.trans (congrArg some (by kernel_rfl)),
  f33 := ⟨Try.f96.name, by decide, Try.func96.trans (congrArg some (by kernel_rfl))⟩,
  f34 := ⟨Try.f97.name, by decide, Try.func97.trans (congrArg some (by kernel_rfl))⟩,
  f35 := ⟨Try.f98.name, by decide, Try.func98.trans (congrArg some (by kernel_rfl))⟩,
  f40 := ⟨Try.f99.name, by decide, Try.func99.trans (congrArg some (by kernel_rfl))⟩,
  t0 := Try.underlying0,
  a0 := Try.isAgg0,
  z0 := Try.sizeOf0,
  v0 := Try.zeroValue0,
  t3 := Try.underlying3,
  a3 := Try.isAgg3,
  z3 := Try.sizeOf3,
  v3 := Try.zeroValue3,
  t4 := Try.underlying4,
  a4 := Try.isAgg4,
  z4 := Try.sizeOf4,
  v4 := Try.zeroValue4,
  t5 := Try.underlying5,
  a5 := Try.isAgg5,
  z5 := Try.sizeOf5,
  v5 := Try.zeroValue5,
  t9 := Try.underlying9,
  a9 := Try.isAgg9,
  z9 := Try.sizeOf9,
  v9 := Try.zeroValue9,
  t22 := Try.underlying22,
  a22 := Try.isAgg22,
  z22 := Try.sizeOf22,
  v22 := Try.zeroValue22,
  t23 := Try.underlying22,
  a23 := Try.isAgg22,
  z23 := Try.sizeOf22,
  v23 := Try.zeroValue22,
  t25 := Try.underlying3,
  a25 := Try.isAgg3,
  z25 := Try.sizeOf3,
  v25 := Try.zeroValue3,
  t32 := Try.underlying115,
  a32 := Try.isAgg115,
  z32 := Try.sizeOf115,
  v32 := Try.zeroValue115,
  t35 := Try.underlying117,
  a35 := Try.isAgg117,
  z35 := Try.sizeOf117,
  v35 := Try.zeroValue117,
  t36 := Try.underlying118,
  a36 := Try.isAgg118,
  z36 := Try.sizeOf118,
  v36 := Try.zeroValue118,
  t41 := Try.underlying103,
  a41 := Try.isAgg103,
  z41 := Try.sizeOf103,
  v41 := Try.zeroValue103,
  t44 := Try.underlying125,
  a44 := Try.isAgg125,
  z44 := Try.sizeOf125,
  v44 := Try.zeroValue125,
  t46 := Try.underlying127,
  a46 := Try.isAgg127,
  z46 := Try.sizeOf127,
  v46 := Try.zeroValue127,
  t53 := Try.underlying129,
  a53 := Try.isAgg129,
  z53 := Try.sizeOf129,
  v53 := Try.zeroValue129,
  t57 := Try.underlying133,
  a57 := Try.isAgg133,
  z57 := Try.sizeOf133,
  v57 := Try.zeroValue133,
  t63 := Try.underlying135,
  a63 := Try.isAgg135,
  z63 := Try.sizeOf135,
  v63 := Try.zeroValue135,
  t64 := Try.underlying136,
  a64 := Try.isAgg136,
  z64 := Try.sizeOf136,
  v64 := Try.zeroValue136 }
theorem sortsA (m : Nat) : AnyZI.SortsIn Try.prog sortedA_ren Fence.wide m :=
  ⟨fun blk off cap ss W hH hblk hsz => callsIn_wide.2 (AnyM.slices_Sort_int sortA blk off cap ss W hH hblk hsz),
   fun p cap W => callsIn_wide.2 (AnyM.slices_Sort_int_none sortA p cap W)⟩
theorem keysA_calls (w : World) (mb : Option Nat) : Calls Try.prog 73 #[.map mb] w fun e w' => e = .returned (.func (.func 80) #[] #[.pointer (some ⟨w.heap.size, 0, none⟩)]) ∧ w' = w.alloc (.cells #[.map mb] 72) :=
  callsIn_wide.1 (AnyZI.keys_in keysA Fence.wide 5 trivial rfl mb w)
set_option maxRecDepth 10000 in
set_option maxHeartbeats 1000000 in
theorem sortedA_calls {H : Type} (b nn : Nat) (D0 : DataW H) (R : Value → Option (DataW H × List MemPlace)) (w : World) (hown : w.ownsMap Try.prog 3 R b nn D0) (hmax : Maps.size D0 ≤ maxLen) (hbytes : Maps.size D0 * 8 ≤ 140737488355328) :
    Calls Try.prog 72 #[.func (.func 80) #[] #[.pointer (some ⟨w.heap.size, 0, none⟩)]] (w.alloc (.cells #[.map (some b)] 72)) fun e w' => ∃ (v : Value) (ss : List Int), e = .returned v ∧ ss.Perm (intKeys D0) ∧
      w'.ownsRow (w.heap.size + 1) 3 1 v ss.length ((ss.mergeSort (fun x y => decide (x ≤ y))).map encZ) ∧ Below (w.heap.size + 1) (w.alloc (.cells #[.map (some b)] 72)) w' := by
  have hbl := hown.lt
  have hseq : SeqGives Fence.wide 2 Try.prog 80 #[.pointer (some ⟨w.heap.size, 0, none⟩)] encZ (fun ss => ss.Perm (intKeys D0)) (Maps.size D0) (w.alloc (.cells #[.map (some b)] 72)) :=
    AnyZI.keys_gives (ρ := keysA_ren) { keysA with } Fence.wide _ trivial rfl (by omega) w.heap.size b nn D0 _ (by simp) (by simp) (by
      obtain ⟨es, clock, hb, Ft, hs, hD⟩ := hown
      exact ⟨es, clock, (Below.heap_alloc _ _ b hbl).trans hb, Ft, hs, hD⟩)
  have cS := AnyZI.sorted_in sortedA Fence.wide 5 trivial trivial trivial trivial rfl (by omega) (sortsA _) (enters_of Try.func61 (by kernel_rfl) rfl) 80 #[.pointer (some ⟨w.heap.size, 0, none⟩)] trivial (enters_of Try.func80 (by kernel_rfl) rfl) _ _ hmax hbytes _ hseq
  change CallsIn _ _ Try.prog 72 _ _ _ at cS
  refine (callsIn_wide.1 cS).mono ?_
  rintro e w' ⟨v, ss, rfl, hS, hrow, _, hb⟩
  have e1 : (w.alloc (.cells #[.map (some b)] 72)).heap.size = w.heap.size + 1 := by simp
  rw [e1] at hrow hb
  exact ⟨v, ss, rfl, hS, hrow, hb⟩
end Go.Proofs.Ytfapehgjiglflaa
