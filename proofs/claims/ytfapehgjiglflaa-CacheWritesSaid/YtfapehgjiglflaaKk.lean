/- The cache law's known case. -/
import Derived.Test.YtfapehgjiglflaaKf
namespace Go.Proofs.Ytfapehgjiglflaa
open Go.RowKit
theorem FullOne (w : World) (b : UInt8) : Calls Try.prog 17 #[.slice (some ⟨w.heap.size, 0, none⟩) 1 1] (w.alloc (.cells #[bv b] 5)) (fun e w' => ∃ A c, e = .returned (.slice A 512 c) ∧ Own8 w' (.slice A 512 c) (fullP [b]) ∧ Below w.heap.size w w') := by
  refine (Full_calls _ _ [b] (rd_new w (bvs [b]) 5 1 rfl) (by simp)).mono ?_
  rintro e w' ⟨r, rfl, ho, hB, _⟩
  obtain ⟨A, c, e⟩ := ho.shape
  rw [fullP_len] at e
  subst e
  exact ⟨A, c, rfl, ho, ((Below.refl w.heap.size w).alloc (Nat.le_refl _) _).trans (hB.mono (by simp))⟩
theorem FullM (w : World) (b : UInt8) (m : Nat × Nat) : Calls Try.prog 17 #[.slice (some ⟨w.heap.size, 0, none⟩) 1 1] (w.alloc (.cells #[bv b] 5 m)) (fun e w' => ∃ A c, e = .returned (.slice A 512 c) ∧ Own8 w' (.slice A 512 c) (fullP [b]) ∧ Below w.heap.size w w') := by
  have hr : Rd (w.alloc (.cells #[bv b] 5 m)) (.slice (some ⟨w.heap.size, 0, none⟩) 1 1) (bvs [b]) := by
    refine ⟨_, 1, rfl, Nat.le_refl _, fun _ => ⟨_, rfl, fun j u hu => ?_⟩⟩
    rw [addr_add_at, Nat.zero_add]
    have e := heap_alloc_new w (.cells #[bv b] 5 m)
    simp only [World.cell?, e]
    simpa [bvs] using hu
  refine (Full_calls _ _ [b] hr (by simp)).mono ?_
  rintro e w' ⟨r, rfl, ho, hB, _⟩
  obtain ⟨A, c, e⟩ := ho.shape
  rw [fullP_len] at e
  subst e
  exact ⟨A, c, rfl, ho, ((Below.refl w.heap.size w).alloc (Nat.le_refl _) _).trans (hB.mono (by simp))⟩
def kd0 : Dk := newD 5
def kc1 (A : List UInt8) : Ck := ⟨2, [⟨1, A, true, 0⟩], 0, winc 0, 0⟩
def kc2 (A : List UInt8) : Ck := ⟨2, [⟨2, lastP kd0 2, false, 0⟩, ⟨1, A, true, 0⟩], 0, winc (winc 0), 0⟩
def kc3 (A : List UInt8) : Ck := ⟨2, [⟨1, A, true, 0⟩, ⟨2, lastP kd0 2, false, 0⟩], winc 0, winc (winc 0), 0⟩
def kc4 (A : List UInt8) : Ck := ⟨2, [⟨3, lastP kd0 3, false, 0⟩, ⟨1, A, true, 0⟩], winc 0, winc (winc (winc 0)), winc 0⟩
theorem kp1 (A : List UInt8) (h : A.length = 512) : putP (newC 2) kd0 5 1 A = (0, kc1 A, kd0) := by
  unfold putP
  rw [if_neg (by rw [h]; omega)]
  rfl
theorem kg2 (A : List UInt8) : getP (kc1 A) kd0 5 2 = (0, kc2 A, kd0) := by rfl
theorem kg3 (A : List UInt8) : getP (kc2 A) kd0 5 1 = (0, kc3 A, kd0) := by rfl
theorem kg4 (A : List UInt8) : getP (kc3 A) kd0 5 3 = (0, kc4 A, kd0) := by rfl
theorem kheld (A : List UInt8) : heldL (kc4 A) 5 = [1, 3] := by rfl
theorem kdirty (A : List UInt8) : dirtyL (kc4 A) 5 = [1] := by rfl
theorem kst (A : List UInt8) : (kc4 A).hits = 1 ∧ (kc4 A).misses = 3 ∧ (kc4 A).evs = 1 := by
  have h1 : winc 0 = 1 := by unfold winc wrap64; omega
  have h3 : winc (winc (winc 0)) = 3 := by unfold winc wrap64; omega
  exact ⟨h1, h3, h1⟩
theorem kd0_ok : Dko 5 kd0 := ⟨rfl, rfl, by show waitP (newD 5) ≤ _; decide, by show (0 : Int) ≤ _; omega, by show (0 : Nat) ≤ _; omega⟩
theorem klast (n : Nat) (h : n < 5) : (lastP kd0 n).length = 512 := by
  have : lastP kd0 n = zblk := by
    rcases (show n = 0 ∨ n = 1 ∨ n = 2 ∨ n = 3 ∨ n = 4 by omega) with rfl | rfl | rfl | rfl | rfl <;> rfl
  rw [this]
  exact zblk_len
theorem kok0 : Cok 5 (newC 2) kd0 := ⟨kd0_ok, fun h hh => by cases hh⟩
theorem kok1 (A : List UInt8) (h : A.length = 512) : Cok 5 (kc1 A) kd0 := ⟨kd0_ok, fun x hx => by
  rcases List.mem_cons.1 hx with rfl | hx
  · exact h
  · cases hx⟩
theorem kok2 (A : List UInt8) (h : A.length = 512) : Cok 5 (kc2 A) kd0 := ⟨kd0_ok, fun x hx => by
  rcases List.mem_cons.1 hx with rfl | hx
  · exact klast 2 (by omega)
  · rcases List.mem_cons.1 hx with rfl | hx
    · exact h
    · cases hx⟩
theorem kok3 (A : List UInt8) (h : A.length = 512) : Cok 5 (kc3 A) kd0 := ⟨kd0_ok, fun x hx => by
  rcases List.mem_cons.1 hx with rfl | hx
  · exact h
  · rcases List.mem_cons.1 hx with rfl | hx
    · exact klast 2 (by omega)
    · cases hx⟩
theorem kok4 (A : List UInt8) (h : A.length = 512) : Cok 5 (kc4 A) kd0 := ⟨kd0_ok, fun x hx => by
  rcases List.mem_cons.1 hx with rfl | hx
  · exact klast 3 (by omega)
  · rcases List.mem_cons.1 hx with rfl | hx
    · exact h
    · cases hx⟩
theorem NewB_calls (w : World) (N : Nat) (h1 : 1 ≤ N) (h2 : N ≤ 16384) : Calls Try.prog 10 #[.int .i64 (N : Int)] w fun e w' => ∃ g S, e = .returned (.tuple #[.pointer (some ⟨g, 0, none⟩), .int .i64 0]) ∧ DK w' g (newD N) S ∧ Below w.heap.size w w' ∧ ∀ k, S k → w.heap.size ≤ k :=
  (New_calls w N).mono fun e w' h => by
    unfold NewOut NewOutF at h
    rw [if_neg (by omega), Int.toNat_natCast] at h
    exact h
theorem GetR.ok {o : Int × Ck × Dk} {e : Ending} {w' : World} (h : GetR o e w') (h0 : o.1 = 0) : ∃ h r v, o.2.1.l = h :: r ∧ e = .returned (.tuple #[v, .int .i64 0]) ∧ Own8 w' v h.b := by
  rcases h with ⟨_, h⟩ | ⟨h, _⟩
  · exact h
  · exact absurd h0 h
/-- A Get's value, whatever it is. -/
theorem GetR.val {o : Int × Ck × Dk} {e : Ending} {w' : World} (h : GetR o e w') : ∃ A n c, e = .returned (.tuple #[.slice A n c, .int .i64 o.1]) := by
  rcases h with ⟨h0, hh, r, v, _, rfl, ho⟩ | ⟨_, rfl⟩
  · obtain ⟨A, c, rfl⟩ := ho.shape
    rw [h0]
    exact ⟨A, _, c, rfl⟩
  · exact ⟨none, 0, 0, rfl⟩
theorem kle {A : List UInt8} (h : A.length = 512) {c : Ck} (hc : Cok 5 c kd0) : ∀ x ∈ c.l, x.b.length ≤ 1000000000 := fun x hx => by rw [hc.b512 x hx]; omega
set_option maxRecDepth 10000 in
set_option maxHeartbeats 8000000 in
theorem known_calls (w : World) : Calls Try.prog 9 #[] w fun e w' => e = .returned (.bool true) ∧ Below w.heap.size w w' := by
  go_enter Try.func9, Try.ntmps9
  go_wp2_with fail
  refine (NewB_calls w 5 (by omega) (by omega)).mono ?_
  rintro e w1 ⟨g, S, rfl, hdk, hb1, hS⟩
  have hN := Lib.hid (NewC_calls (N := 5) w w1 hdk hb1 hS 2 (by omega) (by omega))
  clear hdk hS
  go_wp2_with fail
  refine hN.out.mono ?_
  rintro e w2 ⟨gc, rfl, hc0⟩
  have hc0 : CS w w2 gc g 5 (newC 2) kd0 := hc0
  have hc0 := Lib.hid hc0
  clear hN hb1
  have hcv := fun (W : World) (C : Array Value) => Lib.run_convert_bytes_const (P := Try.prog) W 31 5 C 1 1 Try.underlying31 Try.underlying5
  obtain ⟨A, hA⟩ : ∃ A, Hid (A = fullP [97]) := ⟨_, Lib.hid rfl⟩
  have lA : Hid (A.length = 512) := by rw [hA.out]; exact fullP_len _
  go_wp2_with fail
  refine (FullM w2 97 (1, 2)).mono ?_
  rintro e w3 ⟨fA, fc, rfl, hfo, hfb⟩
  rw [← hA.out] at hfo
  have hP := CS.put (hc0.out.go hfb) (by omega) kok0 1 (.slice fA 512 fc) A (RdT.of_own (F := fun _ => True) (t := 5) (base := 0) hfo (fun _ _ => trivial))
  rw [kp1 A lA.out] at hP
  have hP := Lib.hid hP
  clear hfo hfb hc0 hcv
  go_wp2_with fail
  refine hP.out.mono ?_
  rintro e w4 ⟨rfl, hc1, _⟩
  have hG := CS.get hc1 (by omega) (kok1 A lA.out) 2 (by rw [kg2]; exact kle lA.out (kok2 A lA.out))
  rw [kg2] at hG
  have hG := Lib.hid hG
  clear hP hc1
  go_wp2_with fail
  refine hG.out.mono ?_
  rintro e w5 ⟨hc2, hr, _⟩
  obtain ⟨vA, vn, vc, rfl⟩ := hr.val
  have hG2 := CS.get hc2 (by omega) (kok2 A lA.out) 1 (by rw [kg3]; exact kle lA.out (kok3 A lA.out))
  rw [kg3] at hG2
  have hG2 := Lib.hid hG2
  clear hr hc2 hG
  go_wp2_with fail
  refine hG2.out.mono ?_
  rintro e w6 ⟨hc3, hr, _⟩
  obtain ⟨vA, vn, vc, rfl⟩ := hr.val
  have hG3 := CS.get hc3 (by omega) (kok3 A lA.out) 3 (by rw [kg4]; exact kle lA.out (kok4 A lA.out))
  rw [kg4] at hG3
  have hG3 := Lib.hid hG3
  clear hr hc3 hG2
  go_wp2_with fail
  refine hG3.out.mono ?_
  rintro e w7 ⟨hc4, hr, _⟩
  obtain ⟨vA, vn, vc, rfl⟩ := hr.val
  have hS := CS.stats hc4
  obtain ⟨s1, s2, s3⟩ := kst A
  rw [s1, s2, s3] at hS
  have hS := Lib.hid hS
  clear hr hc4 hG3 s1 s2 s3
  go_wp2_with fail
  refine hS.out.mono ?_
  rintro e w8 ⟨rfl, hc4, _⟩
  have hH := CS.held hc4 (by omega)
  rw [kheld] at hH
  have hH := Lib.hid hH
  clear hc4 hS
  go_wp2_with fail
  refine hH.out.mono ?_
  rintro e w9 ⟨⟨v, rfl, hrd, _⟩, hc4⟩
  have hrd : Rd w9 v [.int .i64 1, .int .i64 3] := hrd
  obtain ⟨hA2, hcp, rfl, _, hcells⟩ := hrd
  obtain ⟨ad, rfl, hcl⟩ := hcells (by simp)
  have z0 : w9.cell? ad = some (.int .i64 1) := by
    have := hcl 0 _ rfl
    rwa [show ad.add 0 = ad from rfl] at this
  have z1 : w9.cell? ⟨ad.block, ad.off + 1, none⟩ = some (.int .i64 3) := by
    have := hcl 1 _ rfl
    unfold Addr.add at this
    rwa [if_neg (by omega)] at this
  have hD := CS.dirty hc4 (by omega)
  rw [kdirty] at hD
  have hD := Lib.hid hD
  clear hc4 hH hcells hcl
  go_wp2_with fail
  refine hD.out.mono ?_
  rintro e wa ⟨⟨v, rfl, hrd, _⟩, hc4⟩
  have hrd : Rd wa v [.int .i64 1] := hrd
  obtain ⟨hA3, hcp3, rfl, _, _⟩ := hrd
  have hB := Lib.hid hc4.bel
  clear hc4 hD
  go_wp2
  go_ret
  exact ⟨rfl, hB.out⟩
end Go.Proofs.Ytfapehgjiglflaa
