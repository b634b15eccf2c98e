/- The library's sorted keys of a map keyed by int, laid at this program. -/
import Derived.Test.YtlfbfmeppcicnaaByt
import Derived.Maps.OwnSet
import Derived.Shelf.SlIterI.Nil
import Derived.Shelf.SortM.Plain
import Derived.Shelf.SortM.SortNone
namespace Go.Proofs.Ytlfbfmeppcicnaa
open Go.RowKit Go.Maps Go.Sort Go.Shelf
def keysA_ren : Go.Shelf.Ren := ⟨fun | 7 => 59 | 10 => 89 | n => n, fun | 23 => 78 | 26 => 3 | 3 => 77 | 28 => 95 | 0 => 0 | 27 => 94 | 33 => 30 | 4 => 4 | n => n, fun n => n⟩
theorem keysA : SlLaysZI.n7 Try.prog keysA_ren := {
  mixed := by kernel_rfl,
  f7 := ⟨Try.f59.name, by decide, Try.func59.trans (congrArg some (by kernel_rfl))⟩,
  f10 := ⟨Try.f89.name, by decide, Try.func89.trans (congrArg some (by kernel_rfl))⟩,
  t0 := Try.underlying0,
  a0 := Try.isAgg0,
  z0 := Try.sizeOf0,
  v0 := Try.zeroValue0,
  t4 := Try.underlying4,
  a4 := Try.isAgg4,
  z4 := Try.sizeOf4,
  v4 := Try.zeroValue4,
  t23 := Try.underlying78,
  a23 := Try.isAgg78,
  z23 := Try.sizeOf78,
  v23 := Try.zeroValue78,
  t26 := Try.underlying3,
  a26 := Try.isAgg3,
  z26 := Try.sizeOf3,
  v26 := Try.zeroValue3,
  t27 := Try.underlying94,
  a27 := Try.isAgg94,
  z27 := Try.sizeOf94,
  v27 := Try.zeroValue94,
  t28 := Try.underlying95,
  a28 := Try.isAgg95,
  z28 := Try.sizeOf95,
  v28 := Try.zeroValue95,
  t33 := Try.underlying30,
  a33 := Try.isAgg30,
  z33 := Try.sizeOf30,
  v33 := Try.zeroValue30 }
def sortedA_ren : Go.Shelf.Ren := ⟨fun | 6 => 50 | 8 => 82 | 9 => 83 | 11 => 93 | 13 => 95 | 12 => 94 | 23 => 105 | 24 => 106 | 14 => 96 | 15 => 97 | 16 => 98 | 17 => 99 | 18 => 100 | 19 => 101 | 20 => 102 | 21 => 103 | 22 => 104 | 25 => 107 | 26 => 108 | 27 => 109 | 28 => 110 | 29 => 111 | 30 => 112 | 31 => 113 | n => n, fun | 26 => 3 | 28 => 95 | 24 => 31 | 0 => 0 | 3 => 3 | 37 => 122 | 48 => 135 | 50 => 137 | 4 => 4 | 40 => 127 | 39 => 126 | 45 => 132 | 5 => 5 | 9 => 9 | 51 => 138 | 55 => 142 | 57 => 144 | 58 => 145 | 33 => 30 | n => n, fun n => n⟩
theorem sortedA : SlLaysZI.n6 Try.prog sortedA_ren := {
  mixed := by kernel_rfl,
  f6 := ⟨Try.f50.name, by decide, Try.func50.trans (congrArg some (by kernel_rfl))⟩,
  f8 := ⟨Try.f82.name, by decide, Try.func82.trans (congrArg some (by kernel_rfl))⟩,
  f11 := ⟨Try.f93.name, by decide, Try.func93.trans (congrArg some (by kernel_rfl))⟩,
  t0 := Try.underlying0,
  a0 := Try.isAgg0,
  z0 := Try.sizeOf0,
  v0 := Try.zeroValue0,
  t24 := Try.underlying31,
  a24 := Try.isAgg31,
  z24 := Try.sizeOf31,
  v24 := Try.zeroValue31,
  t26 := Try.underlying3,
  a26 := Try.isAgg3,
  z26 := Try.sizeOf3,
  v26 := Try.zeroValue3,
  t28 := Try.underlying95,
  a28 := Try.isAgg95,
  z28 := Try.sizeOf95,
  v28 := Try.zeroValue95,
  i26 := by kernel_rfl }
def sortA_ren : Go.Shelf.Ren := ⟨fun | 5 => 83 | 8 => 95 | 7 => 94 | 19 => 105 | 20 => 106 | 10 => 96 | 11 => 97 | 12 => 98 | 13 => 99 | 14 => 100 | 15 => 101 | 16 => 102 | 17 => 103 | 18 => 104 | 30 => 107 | 31 => 108 | 32 => 109 | 33 => 110 | 34 => 111 | 35 => 112 | 40 => 113 | n => n, fun | 23 => 31 | 25 => 3 | 3 => 3 | 32 => 122 | 22 => 31 | 0 => 0 | 44 => 135 | 46 => 137 | 4 => 4 | 36 => 127 | 35 => 126 | 41 => 132 | 5 => 5 | 9 => 9 | 53 => 138 | 57 => 142 | 63 => 144 | 64 => 145 | n => n, fun n => n⟩
theorem sortA : SlLaysM.n5 Try.prog sortA_ren := {
  mixed := by kernel_rfl,
  f5 := ⟨Try.f83.name, by decide, Try.func83.trans (congrArg some (by kernel_rfl))⟩,
  f7 := ⟨Try.f94.name, by decide, Try.func94.trans (congrArg some (by kernel_rfl))⟩,
  f8 := Try.func95.trans (congrArg some (by kernel_rfl)),
  f10 := ⟨Try.f96.name, by decide, Try.func96.trans (congrArg some (by kernel_rfl))⟩,
  f11 := ⟨Try.f97.name, by decide, Try.func97.trans (congrArg some (by kernel_rfl))⟩,
  f12 := ⟨Try.f98.name, by decide, Try.func98.trans (congrArg some (by kernel_rfl))⟩,
  f13 := ⟨Try.f99.name, by decide, Try.func99.trans (congrArg some (by kernel_rfl))⟩,
  f14 := ⟨Try.f100.name, by decide, Try.func100.trans (congrArg some (by kernel_rfl))⟩,
  f15 := ⟨Try.f101.name, by decide, Try.func101.trans (congrArg some (by kernel_rfl))⟩,
  f16 := ⟨Try.f102.name, by decide, Try.func102.trans (congrArg some (by kernel_rfl))⟩,
  f17 := ⟨Try.f103.name, by decide, Try.func103.trans (congrArg some (by kernel_rfl))⟩,
  f18 := ⟨Try.f104.name, by decide, Try.func104.trans (congrArg some (by kernel_rfl))⟩,
  f19 := Try.func105.trans (congrArg some (by kernel_rfl)),
  f20 := Try.func106.trans (congrArg some (by kernel_rfl)),
  f30 := ⟨Try.f107.name, by decide, Try.func107.trans (congrArg some (by kernel_rfl))⟩,
  f31 := Try.func108.trans (congrArg some (by kernel_rfl)),
  f32 := Try.func109.trans (congrArg some (by kernel_rfl)),
  f33 := ⟨Try.f110.name, by decide, Try.func110.trans (congrArg some (by kernel_rfl))⟩,
  f34 := ⟨Try.f111.name, by decide, Try.func111.trans (congrArg some (by kernel_rfl))⟩,
  f35 := ⟨Try.f112.name, by decide, Try.func112.trans (congrArg some (by kernel_rfl))⟩,
  f40 := ⟨Try.f113.name, by decide, Try.func113.trans (congrArg some (by kernel_rfl))⟩,
  t0 := Try.underlying0,
  a0 := Try.isAgg0,
  z0 := Try.sizeOf0,
  v0 := Try.zeroValue0,
  t3 := Try.underlying3,
  a3 := Try.isAgg3,
  z3 := Try.sizeOf3,
  v3 := Try.zeroValue3,
  t4 := Try.underlying4,
  a4 := Try.isAgg4,
  z4 := Try.sizeOf4,
  v4 := Try.zeroValue4,
  t5 := Try.underlying5,
  a5 := Try.isAgg5,
  z5 := Try.sizeOf5,
  v5 := Try.zeroValue5,
  t9 := Try.underlying9,
  a9 := Try.isAgg9,
  z9 := Try.sizeOf9,
  v9 := Try.zeroValue9,
  t22 := Try.underlying31,
  a22 := Try.isAgg31,
  z22 := Try.sizeOf31,
  v22 := Try.zeroValue31,
  t23 := Try.underlying31,
  a23 := Try.isAgg31,
  z23 := Try.sizeOf31,
  v23 := Try.zeroValue31,
  t25 := Try.underlying3,
  a25 := Try.isAgg3,
  z25 := Try.sizeOf3,
  v25 := Try.zeroValue3,
  t32 := Try.underlying122,
  a32 := Try.isAgg122,
  z32 := Try.sizeOf122,
  v32 := Try.zeroValue122,
  t35 := Try.underlying126,
  a35 := Try.isAgg126,
  z35 := Try.sizeOf126,
  v35 := Try.zeroValue126,
  t36 := Try.underlying127,
  a36 := Try.isAgg127,
  z36 := Try.sizeOf127,
  v36 := Try.zeroValue127,
  t41 := Try.underlying132,
  a41 := Try.isAgg132,
  z41 := Try.sizeOf132,
  v41 := Try.zeroValue132,
  t44 := Try.underlying135,
  a44 := Try.isAgg135,
  z44 := Try.sizeOf135,
  v44 := Try.zeroValue135,
  t46 := Try.underlying137,
  a46 := Try.isAgg137,
  z46 := Try.sizeOf137,
  v46 := Try.zeroValue137,
  t53 := Try.underlying138,
  a53 := Try.isAgg138,
  z53 := Try.sizeOf138,
  v53 := Try.zeroValue138,
  t57 := Try.underlying142,
  a57 := Try.isAgg142,
  z57 := Try.sizeOf142,
  v57 := Try.zeroValue142,
  t63 := Try.underlying144,
  a63 := Try.isAgg144,
  z63 := Try.sizeOf144,
  v63 := Try.zeroValue144,
  t64 := Try.underlying145,
  a64 := Try.isAgg145,
  z64 := Try.sizeOf145,
  v64 := Try.zeroValue145 }
theorem sortsA (m : Nat) : AnyZI.SortsIn Try.prog sortedA_ren Fence.wide m :=
  ⟨fun blk off cap ss W hH hblk hsz => callsIn_wide.2 (AnyM.slices_Sort_int sortA blk off cap ss W hH hblk hsz),
   fun p cap W => callsIn_wide.2 (AnyM.slices_Sort_int_none sortA p cap W)⟩
theorem keysA_calls (w : World) (mb : Option Nat) : Calls Try.prog 59 #[.map mb] w fun e w' => e = .returned (.func (.func 89) #[] #[.pointer (some ⟨w.heap.size, 0, none⟩)]) ∧ w' = w.alloc (.cells #[.map mb] 78) :=
  callsIn_wide.1 (AnyZI.keys_in keysA Fence.wide 5 trivial rfl mb w)
set_option maxRecDepth 10000 in
set_option maxHeartbeats 1000000 in
theorem sortedA_calls {H : Type} (b nn : Nat) (D0 : DataW H) (R : Value → Option (DataW H × List MemPlace)) (w : World) (hown : w.ownsMap Try.prog 3 R b nn D0) (hmax : Maps.size D0 ≤ maxLen) (hbytes : Maps.size D0 * 8 ≤ 140737488355328) :
    Calls Try.prog 50 #[.func (.func 89) #[] #[.pointer (some ⟨w.heap.size, 0, none⟩)]] (w.alloc (.cells #[.map (some b)] 78)) fun e w' => ∃ (v : Value) (ss : List Int), e = .returned v ∧ ss.Perm (intKeys D0) ∧
      w'.ownsRow (w.heap.size + 1) 3 1 v ss.length ((ss.mergeSort (fun x y => decide (x ≤ y))).map encZ) ∧ Below (w.heap.size + 1) (w.alloc (.cells #[.map (some b)] 78)) w' := by
  have hbl := hown.lt
  have hseq : SeqGives Fence.wide 2 Try.prog 89 #[.pointer (some ⟨w.heap.size, 0, none⟩)] encZ (fun ss => ss.Perm (intKeys D0)) (Maps.size D0) (w.alloc (.cells #[.map (some b)] 78)) :=
    AnyZI.keys_gives (ρ := keysA_ren) { keysA with } Fence.wide _ trivial rfl (by omega) w.heap.size b nn D0 _ (by simp) (by simp) (by
      obtain ⟨es, clock, hb, Ft, hs, hD⟩ := hown
      exact ⟨es, clock, (Below.heap_alloc _ _ b hbl).trans hb, Ft, hs, hD⟩)
  have cS := AnyZI.sorted_in sortedA Fence.wide 5 trivial trivial trivial trivial rfl (by omega) (sortsA _) (enters_of Try.func83 (by kernel_rfl) rfl) 89 #[.pointer (some ⟨w.heap.size, 0, none⟩)] trivial (enters_of Try.func89 (by kernel_rfl) rfl) _ _ hmax hbytes _ hseq
  change CallsIn _ _ Try.prog 50 _ _ _ at cS
  refine (callsIn_wide.1 cS).mono ?_
  rintro e w' ⟨v, ss, rfl, hS, hrow, _, hb⟩
  have e1 : (w.alloc (.cells #[.map (some b)] 78)).heap.size = w.heap.size + 1 := by simp
  rw [e1] at hrow hb
  exact ⟨v, ss, rfl, hS, hrow, hb⟩
end Go.Proofs.Ytlfbfmeppcicnaa
