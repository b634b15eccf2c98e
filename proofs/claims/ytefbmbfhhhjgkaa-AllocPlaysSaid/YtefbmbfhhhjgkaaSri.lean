/- The library's sorted keys of a map keyed by int, laid at this program. -/
import Derived.Test.YtefbmbfhhhjgkaaByt
import Derived.Maps.OwnSet
import Derived.Shelf.SlIterI.Nil
import Derived.Shelf.SortM.Plain
import Derived.Shelf.SortM.SortNone
namespace Go.Proofs.Ytefbmbfhhhjgkaa
open Go.RowKit Go.Maps Go.Sort Go.Shelf
def keysA_ren : Go.Shelf.Ren := ⟨fun | 7 => 66 | 10 => 84 | n => n, fun | 23 => 79 | 26 => 3 | 3 => 78 | 28 => 91 | 0 => 0 | 27 => 90 | 33 => 42 | 4 => 4 | n => n, fun n => n⟩
theorem keysA : SlLaysZI.n7 Try.prog keysA_ren := {
  mixed := by kernel_rfl,
  f7 := ⟨Try.f66.name, by decide, Try.func66.trans (congrArg some (by kernel_rfl))⟩,
  f10 := ⟨Try.f84.name, by decide, Try.func84.trans (congrArg some (by kernel_rfl))⟩,
  t0 := Try.underlying0,
  a0 := Try.isAgg0,
  z0 := Try.sizeOf0,
  v0 := Try.zeroValue0,
  t4 := Try.underlying4,
  a4 := Try.isAgg4,
  z4 := Try.sizeOf4,
  v4 := Try.zeroValue4,
  t23 := Try.underlying79,
  a23 := Try.isAgg79,
  z23 := Try.sizeOf79,
  v23 := Try.zeroValue79,
  t26 := Try.underlying3,
  a26 := Try.isAgg3,
  z26 := Try.sizeOf3,
  v26 := Try.zeroValue3,
  t27 := Try.underlying90,
  a27 := Try.isAgg90,
  z27 := Try.sizeOf90,
  v27 := Try.zeroValue90,
  t28 := Try.underlying91,
  a28 := Try.isAgg91,
  z28 := Try.sizeOf91,
  v28 := Try.zeroValue91,
  t33 := Try.underlying42,
  a33 := Try.isAgg42,
  z33 := Try.sizeOf42,
  v33 := Try.zeroValue42 }
def sortedA_ren : Go.Shelf.Ren := ⟨fun | 6 => 60 | 8 => 79 | 9 => 80 | 11 => 89 | 13 => 91 | 12 => 90 | 23 => 103 | 24 => 104 | 14 => 94 | 15 => 95 | 16 => 96 | 17 => 97 | 18 => 98 | 19 => 99 | 20 => 100 | 21 => 101 | 22 => 102 | 25 => 105 | 26 => 106 | 27 => 107 | 28 => 108 | 29 => 109 | 30 => 110 | 31 => 111 | n => n, fun | 26 => 3 | 28 => 91 | 24 => 22 | 0 => 0 | 3 => 3 | 37 => 100 | 48 => 128 | 50 => 130 | 4 => 4 | 40 => 121 | 39 => 120 | 45 => 67 | 5 => 5 | 9 => 9 | 51 => 131 | 55 => 135 | 57 => 137 | 58 => 51 | 33 => 42 | n => n, fun n => n⟩
theorem sortedA : SlLaysZI.n6 Try.prog sortedA_ren := {
  mixed := by kernel_rfl,
  f6 := ⟨Try.f60.name, by decide, Try.func60.trans (congrArg some (by kernel_rfl))⟩,
  f8 := ⟨Try.f79.name, by decide, Try.func79.trans (congrArg some (by kernel_rfl))⟩,
  f11 := ⟨Try.f89.name, by decide, Try.func89.trans (congrArg some (by kernel_rfl))⟩,
  t0 := Try.underlying0,
  a0 := Try.isAgg0,
  z0 := Try.sizeOf0,
  v0 := Try.zeroValue0,
  t24 := Try.underlying22,
  a24 := Try.isAgg22,
  z24 := Try.sizeOf22,
  v24 := Try.zeroValue22,
  t26 := Try.underlying3,
  a26 := Try.isAgg3,
  z26 := Try.sizeOf3,
  v26 := Try.zeroValue3,
  t28 := Try.underlying91,
  a28 := Try.isAgg91,
  z28 := Try.sizeOf91,
  v28 := Try.zeroValue91,
  i26 := by kernel_rfl }
def sortA_ren : Go.Shelf.Ren := ⟨fun | 5 => 80 | 8 => 91 | 7 => 90 | 19 => 103 | 20 => 104 | 10 => 94 | 11 => 95 | 12 => 96 | 13 => 97 | 14 => 98 | 15 => 99 | 16 => 100 | 17 => 101 | 18 => 102 | 30 => 105 | 31 => 106 | 32 => 107 | 33 => 108 | 34 => 109 | 35 => 110 | 40 => 111 | n => n, fun | 23 => 22 | 25 => 3 | 3 => 3 | 32 => 100 | 22 => 22 | 0 => 0 | 44 => 128 | 46 => 130 | 4 => 4 | 36 => 121 | 35 => 120 | 41 => 67 | 5 => 5 | 9 => 9 | 53 => 131 | 57 => 135 | 63 => 137 | 64 => 51 | n => n, fun n => n⟩
theorem sortA : SlLaysM.n5 Try.prog sortA_ren := {
  mixed := by kernel_rfl,
  f5 := ⟨Try.f80.name, by decide, Try.func80.trans (congrArg some (by kernel_rfl))⟩,
  f7 := ⟨Try.f90.name, by decide, Try.func90.trans (congrArg some (by kernel_rfl))⟩,
  f8 := Try.func91.trans (congrArg some (by kernel_rfl)),
  f10 := ⟨Try.f94.name, by decide, Try.func94.trans (congrArg some (by kernel_rfl))⟩,
  f11 := ⟨Try.f95.name, by decide, Try.func95.trans (congrArg some (by kernel_rfl))⟩,
  f12 := ⟨Try.f96.name, by decide, Try.func96.trans (congrArg some (by kernel_rfl))⟩,
  f13 := ⟨Try.f97.name, by decide, Try.func97.trans (congrArg some (by kernel_rfl))⟩,
  f14 := ⟨Try.f98.name, by decide, Try.func98.trans (congrArg some (by kernel_rfl))⟩,
  f15 := ⟨Try.f99.name, by decide, Try.func99.trans (congrArg some (by kernel_rfl))⟩,
  f16 := ⟨Try.f100.name, by decide, Try.func100.trans (congrArg some (by kernel_rfl))⟩,
  f17 := ⟨Try.f101.name, by decide, Try.func101.trans (congrArg some (by kernel_rfl))⟩,
  f18 := ⟨Try.f102.name, by decide, Try.func102.trans (congrArg some (by kernel_rfl))⟩,
  f19 := Try.func103.trans (congrArg some (by kernel_rfl)),
  f20 := Try.func104.trans (congrArg some (by kernel_rfl)),
  f30 := ⟨Try.f105.name, by decide, Try.func105.trans (congrArg some (by kernel_rfl))⟩,
  f31 := Try.func106.trans (congrArg some (by kernel_rfl)),
  f32 := Try.func107.trans (congrArg some (by kernel_rfl)),
  f33 := ⟨Try.f108.name, by decide, Try.func108.trans (congrArg some (by kernel_rfl))⟩,
  f34 := ⟨Try.f109.name, by decide, Try.func109.trans (congrArg some (by kernel_rfl))⟩,
  f35 := ⟨Try.f110.name, by decide, Try.func110.trans (congrArg some (by kernel_rfl))⟩,
  f40 := ⟨Try.f111.name, by decide, Try.func111.trans (congrArg some (by kernel_rfl))⟩,
  t0 := Try.underlying0,
  a0 := Try.isAgg0,
  z0 := Try.sizeOf0,
  v0 := Try.zeroValue0,
  t3 := Try.underlying3,
  a3 := Try.isAgg3,
  z3 := Try.sizeOf3,
  v3 := Try.zeroValue3,
  t4 := Try.underlying4,
  a4 := Try.isAgg4,
  z4 := Try.sizeOf4,
  v4 := Try.zeroValue4,
  t5 := Try.underlying5,
  a5 := Try.isAgg5,
  z5 := Try.sizeOf5,
  v5 := Try.zeroValue5,
  t9 := Try.underlying9,
  a9 := Try.isAgg9,
  z9 := Try.sizeOf9,
  v9 := Try.zeroValue9,
  t22 := Try.underlying22,
  a22 := Try.isAgg22,
  z22 := Try.sizeOf22,
  v22 := Try.zeroValue22,
  t23 := Try.underlying22,
  a23 := Try.isAgg22,
  z23 := Try.sizeOf22,
  v23 := Try.zeroValue22,
  t25 := Try.underlying3,
  a25 := Try.isAgg3,
  z25 := Try.sizeOf3,
  v25 := Try.zeroValue3,
  t32 := Try.underlying100,
  a32 := Try.isAgg100,
  z32 := Try.sizeOf100,
  v32 := Try.zeroValue100,
  t35 := Try.underlying120,
  a35 := Try.isAgg120,
  z35 := Try.sizeOf120,
  v35 := Try.zeroValue120,
  t36 := Try.underlying121,
  a36 := Try.isAgg121,
  z36 := Try.sizeOf121,
  v36 := Try.zeroValue121,
  t41 := Try.underlying67,
  a41 := Try.isAgg67,
  z41 := Try.sizeOf67,
  v41 := Try.zeroValue67,
  t44 := Try.underlying128,
  a44 := Try.isAgg128,
  z44 := Try.sizeOf128,
  v44 := Try.zeroValue128,
  t46 := Try.underlying130,
  a46 := Try.isAgg130,
  z46 := Try.sizeOf130,
  v46 := Try.zeroValue130,
  t53 := Try.underlying131,
  a53 := Try.isAgg131,
  z53 := Try.sizeOf131,
  v53 := Try.zeroValue131,
  t57 := Try.underlying135,
  a57 := Try.isAgg135,
  z57 := Try.sizeOf135,
  v57 := Try.zeroValue135,
  t63 := Try.underlying137,
  a63 := Try.isAgg137,
  z63 := Try.sizeOf137,
  v63 := Try.zeroValue137,
  t64 := Try.underlying51,
  a64 := Try.isAgg51,
  z64 := Try.sizeOf51,
  v64 := Try.zeroValue51 }
theorem sortsA (m : Nat) : AnyZI.SortsIn Try.prog sortedA_ren Fence.wide m :=
  ⟨fun blk off cap ss W hH hblk hsz => callsIn_wide.2 (AnyM.slices_Sort_int sortA blk off cap ss W hH hblk hsz),
   fun p cap W => callsIn_wide.2 (AnyM.slices_Sort_int_none sortA p cap W)⟩
theorem keysA_calls (w : World) (mb : Option Nat) : Calls Try.prog 66 #[.map mb] w fun e w' => e = .returned (.func (.func 84) #[] #[.pointer (some ⟨w.heap.size, 0, none⟩)]) ∧ w' = w.alloc (.cells #[.map mb] 79) :=
  callsIn_wide.1 (AnyZI.keys_in keysA Fence.wide 5 trivial rfl mb w)
set_option maxRecDepth 10000 in
set_option maxHeartbeats 1000000 in
theorem sortedA_calls {H : Type} (b nn : Nat) (D0 : DataW H) (R : Value → Option (DataW H × List MemPlace)) (w : World) (hown : w.ownsMap Try.prog 3 R b nn D0) (hmax : Maps.size D0 ≤ maxLen) (hbytes : Maps.size D0 * 8 ≤ 140737488355328) :
    Calls Try.prog 60 #[.func (.func 84) #[] #[.pointer (some ⟨w.heap.size, 0, none⟩)]] (w.alloc (.cells #[.map (some b)] 79)) fun e w' => ∃ (v : Value) (ss : List Int), e = .returned v ∧ ss.Perm (intKeys D0) ∧
      w'.ownsRow (w.heap.size + 1) 3 1 v ss.length ((ss.mergeSort (fun x y => decide (x ≤ y))).map encZ) ∧ Below (w.heap.size + 1) (w.alloc (.cells #[.map (some b)] 79)) w' := by
  have hbl := hown.lt
  have hseq : SeqGives Fence.wide 2 Try.prog 84 #[.pointer (some ⟨w.heap.size, 0, none⟩)] encZ (fun ss => ss.Perm (intKeys D0)) (Maps.size D0) (w.alloc (.cells #[.map (some b)] 79)) :=
    AnyZI.keys_gives (ρ := keysA_ren) { keysA with } Fence.wide _ trivial rfl (by omega) w.heap.size b nn D0 _ (by simp) (by simp) (by
      obtain ⟨es, clock, hb, Ft, hs, hD⟩ := hown
      exact ⟨es, clock, (Below.heap_alloc _ _ b hbl).trans hb, Ft, hs, hD⟩)
  have cS := AnyZI.sorted_in sortedA Fence.wide 5 trivial trivial trivial trivial rfl (by omega) (sortsA _) (enters_of Try.func80 (by kernel_rfl) rfl) 84 #[.pointer (some ⟨w.heap.size, 0, none⟩)] trivial (enters_of Try.func84 (by kernel_rfl) rfl) _ _ hmax hbytes _ hseq
  change CallsIn _ _ Try.prog 60 _ _ _ at cS
  refine (callsIn_wide.1 cS).mono ?_
  rintro e w' ⟨v, ss, rfl, hS, hrow, _, hb⟩
  have e1 : (w.alloc (.cells #[.map (some b)] 79)).heap.size = w.heap.size + 1 := by simp
  rw [e1] at hrow hb
  exact ⟨v, ss, rfl, hS, hrow, hb⟩
end Go.Proofs.Ytefbmbfhhhjgkaa
