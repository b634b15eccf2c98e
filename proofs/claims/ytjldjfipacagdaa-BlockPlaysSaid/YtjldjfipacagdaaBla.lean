/- The walk of BlockArms. -/
import Derived.Test.YtjldjfipacagdaaBkn
import Derived.Test.YtjldjfipacagdaaNum
namespace Go.Proofs.Ytjldjfipacagdaa
open Go.RowKit
/-- A slice of slices of bytes that came in. -/
def RdV (w : World) (x : Value) (l : List (Value × List UInt8)) : Prop := Rd w x (l.map Prod.fst) ∧ ∀ p ∈ l, Rd w p.1 (bvs p.2)
theorem RdV.below {w w' : World} {x : Value} {l : List (Value × List UInt8)} (h : RdV w x l) (hb : Below w.heap.size w w') : RdV w' x l := ⟨h.1.below hb, fun p hp => (h.2 p hp).below hb⟩
theorem winc_small {x : Int} (h1 : 0 ≤ x) (h2 : x ≤ 1000000000000) : winc x = x + 1 := by
  unfold winc wrap64
  omega
theorem waitP_set (d : Dk) {k : Nat} (hk : k < d.wt.length) (vs : List (List UInt8)) : ((d.wt.set k vs).map List.length).sum + (d.wt.getD k []).length = waitP d + vs.length := by
  unfold waitP
  generalize d.wt = l at *
  induction l generalizing k with
  | nil => simp at hk
  | cons a r ih =>
    cases k with
    | zero => simp; omega
    | succ k =>
      have := ih (k := k) (by simpa using hk)
      simp only [List.set_cons_succ, List.map_cons, List.sum_cons, List.getD_cons_succ]
      omega
theorem waitP_add (d : Dk) {k : Nat} (hk : k < d.wt.length) (b : List UInt8) : waitP (addD d k b) = waitP d + 1 := by
  have := waitP_set d hk (d.wt.getD k [] ++ [b])
  rw [List.length_append] at this
  show ((d.wt.set k (d.wt.getD k [] ++ [b])).map List.length).sum = _
  simp only [List.length_cons, List.length_nil] at this
  omega
theorem waitP_cut (d : Dk) (picks : List Int) : waitP (cutD d picks) = 0 := by
  unfold waitP cutD
  simp [List.map_replicate]
structure AS (n : Nat) (picks : List Int) (k : Nat) (d : Dk) : Prop where
  ll : d.l.length = 4
  wl : d.wt.length = 4
  pk : d.picks = picks
  ar : d.arm ≤ 9223372036854775807
  st : (k < n ∧ d.off = false ∧ d.arm = (n : Int) - k ∧ d.wr = k ∧ waitP d = k) ∨ (n ≤ k ∧ d.off = true ∧ d.wr = (n : Int) - 1 ∧ waitP d = 0)
theorem AS.step {n k : Nat} {picks : List Int} {d : Dk} (h : AS n picks k d) (hn : n ≤ 100) {b : List UInt8} (hb : b.length = 512) :
    AS n picks (k + 1) (writeP d ((k % 4 : Nat) : Int) b).2 ∧ (writeP d ((k % 4 : Nat) : Int) b).1 = (if k + 1 < n then 0 else 6) := by
  rcases h.st with ⟨h1, h2, h3, h4, h5⟩ | ⟨h1, h2, h4, h5⟩
  · have ha : askP d ((k % 4 : Nat) : Int) = 0 := by
      unfold askP
      rw [h2, if_neg (by decide), if_neg (by rw [h.ll]; omega)]
    by_cases hk : k + 1 < n
    · have e : writeP d ((k % 4 : Nat) : Int) b = (0, addD (armed d (d.arm - 1)) (k % 4) b) := by
        unfold writeP
        rw [if_neg (fun h => h ha), if_neg (by simp [hb]), if_neg (by omega), if_pos (by omega), Int.toNat_natCast]
      rw [e, if_pos hk]
      refine ⟨⟨h.ll, by show (List.set _ _ _).length = 4; rw [List.length_set]; exact h.wl, h.pk, by show d.arm - 1 ≤ _; omega, .inl ⟨hk, h2, by show d.arm - 1 = _; omega, ?_, ?_⟩⟩, rfl⟩
      · show winc d.wr = _
        rw [winc_small (by omega) (by omega), h4]
        omega
      · rw [waitP_add _ (by show k % 4 < d.wt.length; rw [h.wl]; omega)]
        show waitP d + 1 = _
        omega
    · have e : writeP d ((k % 4 : Nat) : Int) b = (6, cutD (armed d 0) d.picks) := by
        unfold writeP
        rw [if_neg (fun h => h ha), if_neg (by simp [hb]), if_pos (by omega)]
      rw [e, if_neg hk]
      refine ⟨⟨by show (List.map _ _).length = 4; rw [List.length_map, List.length_range]; exact h.ll, by show (List.replicate _ _).length = 4; rw [List.length_replicate]; exact h.ll, h.pk, by show (0 : Int) ≤ _; omega, .inr ⟨by omega, rfl, by show d.wr = _; omega, waitP_cut _ _⟩⟩, rfl⟩
  · have ha : askP d ((k % 4 : Nat) : Int) = 6 := by
      unfold askP
      rw [h2, if_pos rfl]
    have e : writeP d ((k % 4 : Nat) : Int) b = (6, d) := by
      unfold writeP
      rw [if_pos (by rw [ha]; decide), ha]
    rw [e, if_neg (by omega)]
    exact ⟨⟨h.ll, h.wl, h.pk, h.ar, .inr ⟨by omega, h2, h4, h5⟩⟩, rfl⟩
theorem AS.off {n k : Nat} {picks : List Int} {d : Dk} (h : AS n picks k d) : d.off = decide (n ≤ k) := by
  rcases h.st with ⟨h1, h2, _⟩ | ⟨h1, h2, _⟩
  · rw [h2, decide_eq_false (by omega)]
  · rw [h2, decide_eq_true h1]
theorem bits_and3 (k : Nat) (h : k < 1000) : bits .and .i64 (k : Int) 3 = ((k % 4 : Nat) : Int) := by
  rw [show (3 : Int) = ((3 : Nat) : Int) from rfl, bits_and_i64 k 3 (by omega) (by omega)]
  congr 1
  exact Nat.and_two_pow_sub_one_eq_mod k 2
theorem on_ask {d : Dk} (h : d.l.length = 4) : askP (onD d) 0 = 0 := by
  show (if false = true then (6 : Int) else if (0 : Int) < 0 ∨ (d.l.length : Int) ≤ 0 then 1 else 0) = 0
  rw [if_neg (by decide), if_neg (by omega)]
theorem arm_start (n : Nat) (picks : List Int) (hn : 1 ≤ n) (hn2 : n ≤ 100) : AS n picks 0 (armD (newD 4) (n : Int) picks) :=
  ⟨rfl, rfl, rfl, by show imax (n : Int) 0 ≤ _; unfold imax; omega, .inl ⟨by omega, rfl, by show imax (n : Int) 0 = _; unfold imax; omega, rfl, rfl⟩⟩
set_option maxRecDepth 100000 in
set_option maxHeartbeats 8000000 in
theorem BlockArms_calls (w : World) {n0 : Int} {x1 : Value} {l1 : List (Value × List UInt8)} {x2 : Value} {ys2 : List Int} (ww0 : (Lit.int .i64 n0).wf = true) (xx1 : RdV w x1 l1) (ll1 : l1.length ≤ 9223372036854775807) (mm1 : ∀ p ∈ l1, p.2.length ≤ 9223372036854775807)
    (xx2 : Rd w x2 (ys2.map (Value.int .i64))) (ll2 : ys2.length ≤ 9223372036854775807) (ww2 : ∀ n ∈ ys2, (Lit.int .i64 n).wf = true) :
    Calls Try.prog 4 #[.int .i64 n0, x1, x2] w fun e w' => e = .returned (.bool true) ∧ Below w.heap.size w w' := by
  obtain ⟨n1, n2⟩ := wf64 ww0
  clear ww2
  obtain ⟨A1, c1, rfl⟩ : ∃ A c, x1 = .slice A l1.length c := by
    obtain ⟨⟨A, c, e, _⟩, _⟩ := xx1
    exact ⟨A, c, by rw [e, List.length_map]⟩
  obtain ⟨A2, c2, rfl⟩ : ∃ A c, x2 = .slice A ys2.length c := by
    obtain ⟨A, c, e, _⟩ := xx2
    exact ⟨A, c, by rw [e, List.length_map]⟩
  have hx1 := Lib.hid xx1
  have hx2 : Hid (Rd w (.slice A2 ys2.length c2) (ivs ys2)) := xx2
  have hmm := Lib.hid mm1
  clear xx1 xx2 mm1
  by_cases hg1 : 60 < l1.length
  · go_enter Try.func4, Try.ntmps4
    go_wp2_with fail
    refine (known_calls w).mono ?_
    rintro e w1 ⟨rfl, hB1⟩
    go_wp2
    go_ret
    exact ⟨rfl, hB1⟩
  by_cases hg2 : n0 < 1
  · go_enter Try.func4, Try.ntmps4
    go_wp2_with fail
    refine (known_calls w).mono ?_
    rintro e w1 ⟨rfl, hB1⟩
    go_wp2
    go_ret
    exact ⟨rfl, hB1⟩
  by_cases hg3 : 100 < n0
  · go_enter Try.func4, Try.ntmps4
    go_wp2_with fail
    refine (known_calls w).mono ?_
    rintro e w1 ⟨rfl, hB1⟩
    go_wp2
    go_ret
    exact ⟨rfl, hB1⟩
  by_cases hg4 : 50 < ys2.length
  · go_enter Try.func4, Try.ntmps4
    go_wp2_with fail
    refine (known_calls w).mono ?_
    rintro e w1 ⟨rfl, hB1⟩
    go_wp2
    go_ret
    exact ⟨rfl, hB1⟩
  obtain ⟨n, rfl⟩ : ∃ n : Nat, n0 = (n : Int) := ⟨n0.toNat, by omega⟩
  have hn1 : 1 ≤ n := by omega
  have hn2 : n ≤ 100 := by omega
  have hl60 : l1.length ≤ 60 := by omega
  have hy50 : ys2.length ≤ 50 := by omega
  clear hg1 hg2 hg3 hg4 n1 n2
  go_enter Try.func4, Try.ntmps4
  go_wp2_with fail
  refine (known_calls w).mono ?_
  rintro e w0 ⟨rfl, hB0⟩
  go_wp2_with fail
  refine (New_calls w0 4).mono ?_
  intro e w1 h
  obtain ⟨g, S, rfl, hdk, hb, hn⟩ := h.ok (by omega)
  have hs := Lib.hid (St.made hB0 hdk hb hn)
  clear h hdk hb hn hB0
  have hA1 := Lib.hid (Arm_calls w1 g _ S hs.out.dk n (.slice A2 ys2.length c2) ys2 (hx2.out.below hs.out.below) (by omega))
  go_wp2_with fail
  refine hA1.out.mono ?_
  rintro e w2 ⟨rfl, hw⟩
  obtain ⟨S1, hs1, _, _⟩ := hs.out.wrote hw
  have hs1h := Lib.hid hs1
  have has : Hid (AS n ys2 0 (armD (newD (4 : Int).toNat) n ys2)) := arm_start n ys2 hn1 hn2
  clear hs hw hs1 hA1
  go_wp2
  go_loopw [9, 10] (fun i _ wr => ∃ (k : Nat) (S' : Nat → Prop) (d : Dk), k ≤ l1.length ∧ i = .int .i64 k ∧ Hid (St w wr g d S') ∧ Hid (AS n ys2 k d)) (fun i _ _ => l1.length - (RowKit.intOf i).toNat)
  case atStart => exact ⟨0, S1, _, Nat.zero_le _, rfl, hs1h, has⟩
  case round =>
    obtain ⟨k, S', d, hk, rfl, hs, has⟩ := hrel
    clear hs1h
    by_cases hlt : k < l1.length
    · have hxr := hx1.out.below hs.out.below
      obtain ⟨ad, c', e, hc⟩ := hxr.1.cell (j := k) (by simpa using hlt)
      injection e with e1 e2 e3
      subst e1
      clear e2 e3
      rw [List.getElem_map] at hc
      have hpr := hxr.2 _ (List.getElem_mem hlt)
      have hpl := hmm.out _ (List.getElem_mem hlt)
      generalize l1[k] = p at *
      obtain ⟨pv, pb⟩ := p
      simp only at hc hpr hpl
      obtain ⟨pA, pc, rfl⟩ := hpr.shape8
      have hprh := Lib.hid hpr
      clear hpr hxr
      by_cases h512 : 512 < pb.length
      · have hB := Lib.hid hs.out.below
        generalize pb.length = pl at *
        clear hs has
        go_wp2
        go_ret
        exact ⟨rfl, hB.out⟩
      · have hand := bits_and3 k (by omega)
        obtain ⟨hst, he⟩ := has.out.step hn2 (fullP_len pb)
        have hsth := Lib.hid hst
        have heh := Lib.hid he
        have hoff := Lib.hid hst.off
        have hwl := has.out.wl
        have hFu := Lib.hid (Full_calls wr (.slice pA pb.length pc) pb hprh.out (by omega))
        have hW0 : Hid (∀ wa r, Own8 wa r (fullP pb) → Below wr.heap.size wr wa → Calls Try.prog 10 #[.pointer (some ⟨g, 0, none⟩), .int .i64 ((k % 4 : Nat) : Int), r] wa fun e w' => e = .returned (.int .i64 (if k + 1 < n then 0 else 6)) ∧ Wrote wa S' g (writeP d ((k % 4 : Nat) : Int) (fullP pb)).2 w') := fun wa r ho hB => by
          have hsa := hs.out.go hB
          have := Write_calls wa g _ S' hsa.dk ((k % 4 : Nat) : Int) r (fullP pb) (Rd.of_own ho) (hsa.not8 ho) (by rw [fullP_len]; omega) (by rw [has.out.ll]; omega) (by rcases has.out.st with h | h <;> omega) has.out.ar (by rw [has.out.pk]; omega)
          rw [heh.out] at this
          exact this
        clear hst he hpl hwl
        generalize pb.length = pl at *
        generalize hq : k % 4 = q at *
        have hqh := Lib.hid hq
        clear hq
        go_wp2_with fail
        refine hFu.out.mono ?_
        rintro e wa ⟨r, rfl, ho, hB, _⟩
        have hW := Lib.hid (hW0.out wa r ho hB)
        have hsa := Lib.hid (hs.out.go hB)
        clear ho hB hs hFu hW0
        go_wp2_with fail
        refine hW.out.mono ?_
        rintro e wb ⟨rfl, hw⟩
        obtain ⟨S3, hs3, _, _⟩ := hsa.out.wrote hw
        have hs3h := Lib.hid hs3
        clear hW hsa hw hs3
        have hO := Off_calls wb g _ S3 hs3h.out.dk
        rw [hoff.out] at hO
        by_cases hkn : k + 1 < n
        · rw [if_pos hkn]
          rw [decide_eq_false (by omega)] at hO
          have hOh := Lib.hid hO
          have hkn2 : (k : Int) + 1 < (n : Int) := by omega
          clear hO
          go_wp2_with fail
          refine hOh.out.mono ?_
          rintro e wc ⟨rfl, rfl⟩
          go_wp2
          go_roundw
          case rel => exact ⟨k + 1, S3, _, by omega, by go_num, hs3h, hsth⟩
          case measure => simp [RowKit.intOf]; omega
        · rw [if_neg hkn]
          rw [decide_eq_true (by omega)] at hO
          have hOh := Lib.hid hO
          have hkn2 : ¬ ((k : Int) + 1 < (n : Int)) := by omega
          clear hO
          go_wp2_with fail
          refine hOh.out.mono ?_
          rintro e wc ⟨rfl, rfl⟩
          go_wp2
          go_roundw
          case rel => exact ⟨k + 1, S3, _, by omega, by go_num, hs3h, hsth⟩
          case measure => simp [RowKit.intOf]; omega
    · obtain rfl : k = l1.length := by omega
      rcases has.out.st with ⟨h1, h2, _, h4, h5⟩ | ⟨h1, h2, h4, h5⟩
      · have hWr0 := Writes_calls wr g d S' hs.out.dk
        rw [h4] at hWr0
        have hO0 := Off_calls wr g d S' hs.out.dk
        rw [h2] at hO0
        have hwr : Hid (winc d.wr = (l1.length : Int) + 1) := by rw [h4]; exact winc_small (by omega) (by omega)
        have hWr0h := Lib.hid hWr0
        have hO0h := Lib.hid hO0
        have hni : ¬ ((n : Int) ≤ (l1.length : Int)) := by omega
        clear h4 h2 h5 hWr0 hO0
        go_wp2_with fail
        refine hWr0h.out.mono ?_
        rintro e w6 ⟨rfl, rfl⟩
        go_wp2_with fail
        refine hO0h.out.mono ?_
        rintro e w6 ⟨rfl, rfl⟩
        go_wp2_with fail
        refine (On_calls wr g d S' hs.out.dk).mono ?_
        rintro e w3 ⟨rfl, hw⟩
        obtain ⟨S4, hs4, _, _⟩ := hs.out.wrote hw
        have hs4h := Lib.hid hs4
        clear hw hs4 hs
        go_wp2_with fail
        refine (Full_calls w3 (.slice none 0 0) [] (Rd.nil _ _ _) (by simp)).mono ?_
        rintro e w4 ⟨r, rfl, ho, hB, _⟩
        have hsa := hs4h.out.go hB
        have hW := Write_calls w4 g _ S4 hsa.dk 0 r (fullP []) (Rd.of_own ho) (hsa.not8 ho) (by rw [fullP_len]; omega) (show d.l.length ≤ _ by have := has.out.ll; omega) (show waitP d ≤ _ by rcases has.out.st with h | h <;> omega) (show (0 : Int) ≤ _ by omega) (Nat.zero_le _)
        rw [writeP_ok (on_ask has.out.ll) (fullP_len []) (show ¬ (0 : Int) < 0 by omega)] at hW
        have hWh := Lib.hid hW
        have hsah := Lib.hid hsa
        clear hW ho hB hsa hs4h
        go_wp2_with fail
        refine hWh.out.mono ?_
        rintro e w5 ⟨rfl, hw⟩
        obtain ⟨S5, hs5, _, _⟩ := hsah.out.wrote hw
        have hs5h := Lib.hid hs5
        clear hw hs5 hsah hWh
        have hWr := Writes_calls w5 g _ S5 hs5h.out.dk
        rw [show (addD (onD d) (0 : Int).toNat (fullP [])).wr = winc d.wr from rfl, hwr.out] at hWr
        have hWrh := Lib.hid hWr
        clear hWr
        go_wp2_with fail
        refine hWrh.out.mono ?_
        rintro e w6 ⟨rfl, rfl⟩
        have hSy := Lib.hid (Sync_calls w5 g _ S5 hs5h.out.dk rfl (show d.l.length ≤ _ by have := has.out.ll; omega) (by rw [waitP_add (onD d) (k := (0 : Int).toNat) (show (0 : Int).toNat < d.wt.length by rw [has.out.wl]; decide)]; show waitP d + 1 ≤ _; rcases has.out.st with h | h <;> omega))
        go_wp2_with fail
        refine hSy.out.mono ?_
        rintro e w7 ⟨rfl, hw⟩
        obtain ⟨S6, hs6, _, _⟩ := hs5h.out.wrote hw
        have hBe := hs6.below
        clear hw hs6 hs5h hSy
        go_wp2
        go_ret
        exact ⟨rfl, hBe⟩
      · have hWr0 := Writes_calls wr g d S' hs.out.dk
        rw [h4] at hWr0
        have hO0 := Off_calls wr g d S' hs.out.dk
        rw [h2] at hO0
        have hwr : Hid (winc d.wr = (n : Int) - 1 + 1) := by rw [h4]; exact winc_small (by omega) (by omega)
        have hSo := Lib.hid (SyncOff_calls wr g d S' hs.out.dk h2)
        have hWr0h := Lib.hid hWr0
        have hO0h := Lib.hid hO0
        have hni : (n : Int) ≤ (l1.length : Int) := by omega
        clear h4 h2 h5 hWr0 hO0
        go_wp2_with fail
        refine hWr0h.out.mono ?_
        rintro e w6 ⟨rfl, rfl⟩
        go_wp2_with fail
        refine hO0h.out.mono ?_
        rintro e w6 ⟨rfl, rfl⟩
        go_wp2_with fail
        refine hSo.out.mono ?_
        rintro e w6 ⟨rfl, rfl⟩
        go_wp2_with fail
        refine (On_calls wr g d S' hs.out.dk).mono ?_
        rintro e w3 ⟨rfl, hw⟩
        obtain ⟨S4, hs4, _, _⟩ := hs.out.wrote hw
        have hs4h := Lib.hid hs4
        clear hw hs4 hs
        go_wp2_with fail
        refine (Full_calls w3 (.slice none 0 0) [] (Rd.nil _ _ _) (by simp)).mono ?_
        rintro e w4 ⟨r, rfl, ho, hB, _⟩
        have hsa := hs4h.out.go hB
        have hW := Write_calls w4 g _ S4 hsa.dk 0 r (fullP []) (Rd.of_own ho) (hsa.not8 ho) (by rw [fullP_len]; omega) (show d.l.length ≤ _ by have := has.out.ll; omega) (show waitP d ≤ _ by rcases has.out.st with h | h <;> omega) (show (0 : Int) ≤ _ by omega) (Nat.zero_le _)
        rw [writeP_ok (on_ask has.out.ll) (fullP_len []) (show ¬ (0 : Int) < 0 by omega)] at hW
        have hWh := Lib.hid hW
        have hsah := Lib.hid hsa
        clear hW ho hB hsa hs4h
        go_wp2_with fail
        refine hWh.out.mono ?_
        rintro e w5 ⟨rfl, hw⟩
        obtain ⟨S5, hs5, _, _⟩ := hsah.out.wrote hw
        have hs5h := Lib.hid hs5
        clear hw hs5 hsah hWh
        have hWr := Writes_calls w5 g _ S5 hs5h.out.dk
        rw [show (addD (onD d) (0 : Int).toNat (fullP [])).wr = winc d.wr from rfl, hwr.out] at hWr
        have hWrh := Lib.hid hWr
        clear hWr
        go_wp2_with fail
        refine hWrh.out.mono ?_
        rintro e w6 ⟨rfl, rfl⟩
        have hSy := Lib.hid (Sync_calls w5 g _ S5 hs5h.out.dk rfl (show d.l.length ≤ _ by have := has.out.ll; omega) (by rw [waitP_add (onD d) (k := (0 : Int).toNat) (show (0 : Int).toNat < d.wt.length by rw [has.out.wl]; decide)]; show waitP d + 1 ≤ _; rcases has.out.st with h | h <;> omega))
        go_wp2_with fail
        refine hSy.out.mono ?_
        rintro e w7 ⟨rfl, hw⟩
        obtain ⟨S6, hs6, _, _⟩ := hs5h.out.wrote hw
        have hBe := hs6.below
        clear hw hs6 hs5h hSy
        go_wp2
        go_ret
        exact ⟨rfl, hBe⟩
end Go.Proofs.Ytjldjfipacagdaa
