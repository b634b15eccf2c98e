/- The law's own names and its known case. -/
import Derived.Test.YtoloogpglnonaaaDm
namespace Go.Proofs.Ytoloogpglnonaaa
open Go.RowKit
def nameK (k : Nat) : List UInt8 := [110, UInt8.ofNat (97 + k / 26), UInt8.ofNat (97 + k % 26)]
def StrOut (w : World) (s : List UInt8) (e : Ending) (w' : World) : Prop := e = .returned (.string ⟨s.toArray⟩) ∧ Below w.heap.size w w'
set_option maxRecDepth 10000 in
set_option maxHeartbeats 1000000 in
theorem name_calls (w : World) (k : Nat) (hk : k ≤ 1000) : Calls Try.prog 9 #[.int .i64 (k : Int)] w (StrOut w (nameK k)) := by
  have hq : (k : Int) / 26 = ((k / 26 : Nat) : Int) := by omega
  have hr : (k : Int) % 26 = ((k % 26 : Nat) : Int) := by omega
  have hn : ¬ ((26 : Int) = 0) := by decide
  have hcv : ∀ (c1 : Nat), (convert 30 9 (.slice (some ⟨w.heap.size, 0, none⟩) 2 c1)).run Try.prog (w.alloc (.cells #[.int .u8 (97 + ((k / 26 : Nat) : Int)), .int .u8 (97 + ((k % 26 : Nat) : Int))] 5)) = .ok (.string ⟨(#[UInt8.ofNat (97 + k / 26), UInt8.ofNat (97 + k % 26)] : Array UInt8)⟩) (w.alloc (.cells #[.int .u8 (97 + ((k / 26 : Nat) : Int)), .int .u8 (97 + ((k % 26 : Nat) : Int))] 5)) := by
    intro c1
    have h := run_convert_bytes_back (P := Try.prog) (w.alloc (.cells #[.int .u8 (97 + ((k / 26 : Nat) : Int)), .int .u8 (97 + ((k % 26 : Nat) : Int))] 5)) 30 9 5 ⟨w.heap.size, 0, none⟩ c1 [UInt8.ofNat (97 + k / 26), UInt8.ofNat (97 + k % 26)] Try.underlying30 Try.underlying5 Try.underlying9 (fun j hj => by
      rw [addr_add_at, Nat.zero_add, (Blk.new w 5 _).cell]
      match j, hj with
      | 0, _ => simp; omega
      | 1, _ => simp; omega)
    exact h
  have hcv2 := hcv 2
  clear hcv
  unfold nameK
  generalize UInt8.ofNat (97 + k / 26) = bx at *
  generalize UInt8.ofNat (97 + k % 26) = by' at *
  generalize k / 26 = q at *
  generalize k % 26 = r at *
  go_enter Try.func9, Try.ntmps9
  go_wp2
  go_ret
  exact ⟨rfl, (Below.refl _ _).alloc (Nat.le_refl _) _⟩
theorem addr_add0 (a : Addr) : a.add 0 = a := by
  obtain ⟨b, o, t⟩ := a
  cases t <;> simp [Addr.add]
theorem k1 : putP [] [97] 5 = ([⟨[97], 5⟩], 512, 0) := by decide +kernel
theorem k2 : moveP [⟨[97], 5⟩] [97] [98] = ([⟨[98], 5⟩], 0) := by decide +kernel
theorem k3 : findP [⟨[98], 5⟩] [98] = (5, true) := by decide +kernel
theorem k4 : takeP3 [⟨[98], 5⟩] [98] = ([⟨[], 0⟩], 5, 0) := by decide +kernel
theorem k5 : rawN [⟨[98], 5⟩] = [[98]] := by decide +kernel
theorem k6 : namesP [⟨[98], 5⟩] = [[98]] := by unfold namesP; rw [k5]; simp [sortS]
theorem RdE.nil (w : World) : RdE w (.slice none 0 0) [] := ⟨none, 0, rfl, fun h => absurd rfl h⟩
set_option maxRecDepth 10000 in
set_option maxHeartbeats 4000000 in
theorem dknown_calls (w : World) : Calls Try.prog 7 #[] w fun e w' => e = .returned (.bool true) ∧ Below w.heap.size w w' := by
  have hP := Put_calls w (.slice none 0 0) [] [97] 5 (RdE.nil w) (by decide) (by decide)
  rw [k1] at hP
  have hP := Lib.hid hP
  have hN1 : Hid (∀ W, Calls Try.prog 15 #[.string ⟨#[120, 46, 121]⟩] W (Ans W (.bool true))) := fun W => Name_calls W [120, 46, 121] (by decide)
  have hN2 : Hid (∀ W, Calls Try.prog 15 #[.string ⟨#[46, 46]⟩] W (Ans W (.bool false))) := fun W => Name_calls W [46, 46] (by decide)
  go_enter Try.func7, Try.ntmps7
  go_wp2_with fail
  refine hP.out.mono ?_
  rintro e w1 ⟨v1, rfl, ho1, hB1, _⟩
  have hM := Move_calls w1 v1 _ [97] [98] ho1.rd (by decide) (by decide)
  rw [k2] at hM
  have hM := Lib.hid hM
  clear ho1 hP
  go_wp2_with fail
  refine hM.out.mono ?_
  rintro e w2 ⟨v2, rfl, ho2, hB2, _⟩
  have hB2 := hB1.trans (hB2.mono hB1.size)
  have hr2 := Lib.hid ho2.rd
  have hF := Find_calls w2 v2 _ [98] ho2.rd (by decide)
  rw [k3] at hF
  have hF := Lib.hid hF
  have hB2 := Lib.hid hB2
  clear ho2 hM hB1
  go_wp2_with fail
  refine hF.out.mono ?_
  rintro e w3 ⟨rfl, hB3⟩
  have hr3 := hr2.out.below hB3
  have hT := Take_calls w3 v2 _ [98] hr3 (by decide)
  rw [k4] at hT
  have hT := Lib.hid hT
  have hr3 := Lib.hid hr3
  have hB3 := Lib.hid (hB2.out.trans (hB3.mono hB2.out.size))
  clear hF hr2 hB2
  go_wp2_with fail
  refine hT.out.mono ?_
  rintro e w4 ⟨v4, rfl, ho4, hB4, _⟩
  have hr4 := hr3.out.below hB4
  have hNm := Names_calls w4 v2 _ hr4 (by decide)
  have hre := ho4.rd
  have hB4 := Lib.hid (hB3.out.trans (hB4.mono hB3.out.size))
  have hNm := Lib.hid hNm
  have hre := Lib.hid hre
  clear hT hr3 hB3 ho4
  go_wp2_with fail
  refine hNm.out.mono ?_
  rintro e w5 ⟨A5, c5, rfl, hB5, hR5⟩
  have hre5 := hre.out.below hB5
  have hB5 := Lib.hid (hB4.out.trans (hB5.mono hB4.out.size))
  obtain ⟨A4, c4, rfl⟩ := hre5.shape
  obtain ⟨ad, rfl, d0, d1⟩ := hre5.at_ (k := 0) (by decide)
  rw [k6] at hR5
  obtain ⟨ae, he5, hc6⟩ : ∃ ae, A5 = some ae ∧ ∀ j u, (strs [[98]])[j]? = some u → w5.cell? (ae.add j) = some u := by
    obtain ⟨_, _, hs5, _, hc5⟩ := hR5
    obtain ⟨ae, he5, hc6⟩ := hc5 (by simp [strs])
    injection hs5 with hs51
    exact ⟨ae, hs51.trans he5, hc6⟩
  subst he5
  have d2 := hc6 0 (.string ⟨#[98]⟩) rfl
  have hl5 : Hid ((rawN [⟨[98], 5⟩]).length = 1) := by rw [k5]; rfl
  clear hre hNm hr4 hB4 hc6 hre5 hR5
  rw [hl5.out]
  simp only [List.getElem_cons_zero, Nat.zero_mul, addr_add0] at d0 d1 d2
  go_wp2_with fail
  refine (hN1.out _).mono ?_
  rintro e w6 ⟨rfl, rfl⟩
  go_wp2_with fail
  refine (hN2.out _).mono ?_
  rintro e w6 ⟨rfl, rfl⟩
  go_wp2
  go_ret
  exact ⟨rfl, hB5.out⟩
end Go.Proofs.Ytoloogpglnonaaa
