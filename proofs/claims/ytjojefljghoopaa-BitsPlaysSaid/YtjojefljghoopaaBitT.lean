import Derived.Test.YtjojefljghoopaaBitL
namespace Go.Proofs.Ytjojefljghoopaa
open Go.RowKit

theorem turn_len (bs : List UInt8) (m : Nat) : (turn bs m).length = bs.length := by simp [turn]
theorem byte_lt (b : UInt8) : b.toNat < 256 := b.toNat_lt
theorem bit_turn {bs : List UInt8} {m : Nat} (h : m / 8 < bs.length) (i : Nat) : bitAt (turn bs m) i = if i = m then !bitAt bs i else bitAt bs i := by
  rw [turn_at h]
  unfold bitAt
  have hx : (UInt8.ofNat (bs[m / 8].toNat ^^^ 2 ^ (m % 8))).toNat = bs[m / 8].toNat ^^^ 2 ^ (m % 8) := ofNat_toNat8 _ (xor_lt8 _ _ (byte_lt _) (Nat.mod_lt _ (by decide)))
  by_cases hq : i / 8 = m / 8
  · rw [hq, List.getD_eq_getElem?_getD, List.getD_eq_getElem?_getD, List.getElem?_set_self h, List.getElem?_eq_getElem h]
    simp only [Option.getD_some]
    rw [hx, Nat.testBit_xor, Nat.testBit_two_pow]
    by_cases hi : i = m
    · subst hi; simp
    · have : ¬ m % 8 = i % 8 := by omega
      rw [if_neg hi]; simp [this]
  · have hi : ¬ i = m := by rintro rfl; exact hq rfl
    rw [if_neg hi, List.getD_eq_getElem?_getD, List.getD_eq_getElem?_getD, List.getElem?_set_ne (by omega)]
theorem turn_turn {bs : List UInt8} {m : Nat} (h : m / 8 < bs.length) : turn (turn bs m) m = bs := by
  rw [turn_at (m := m) (by rw [turn_len]; exact h)]
  have e := turn_at h
  apply List.ext_getElem
  · rw [List.length_set, turn_len]
  · intro j h1 h2
    rw [List.getElem_set]
    simp only [e]
    by_cases hj : m / 8 = j
    · subst hj
      rw [if_pos rfl, List.getElem_set_self]
      have hx : (UInt8.ofNat (bs[m / 8].toNat ^^^ 2 ^ (m % 8))).toNat = bs[m / 8].toNat ^^^ 2 ^ (m % 8) := ofNat_toNat8 _ (xor_lt8 _ _ (byte_lt _) (Nat.mod_lt _ (by decide)))
      rw [hx, Nat.xor_assoc, Nat.xor_self, Nat.xor_zero]
      simp
    · rw [if_neg hj, List.getElem_set_ne hj]
theorem isP_iff (bs : List UInt8) (i : Int) : isP bs i = true ↔ 0 ≤ i ∧ i < 8 * (bs.length : Int) := by
  unfold isP
  simp only [Bool.and_eq_true, decide_eq_true_eq]
  omega
theorem isP_turn (bs : List UInt8) (m : Nat) (i : Int) : isP (turn bs m) i = isP bs i := by unfold isP; rw [turn_len]
theorem turn_cases (bs : List UInt8) (k : Int) :
    (hasP bs k = false ∧ setP bs k = (false, bs) ∧ clearP bs k = (false, bs) ∧ (k < 0 ∨ (0 ≤ k ∧ 8 * (bs.length : Int) ≤ k))) ∨
    (0 ≤ k ∧ k < 8 * (bs.length : Int) ∧ hasP bs k = true ∧ setP bs k = (false, bs) ∧ ∃ bs', bs'.length = bs.length ∧ clearP bs k = (true, bs') ∧ setP bs' k = (true, bs)) ∨
    (0 ≤ k ∧ k < 8 * (bs.length : Int) ∧ hasP bs k = false ∧ ∃ bs', bs'.length = bs.length ∧ setP bs k = (true, bs') ∧ clearP bs' k = (true, bs)) := by
  by_cases hp : isP bs k = true
  · obtain ⟨h0, h1⟩ := (isP_iff bs k).1 hp
    have hq : k.toNat / 8 < bs.length := by omega
    have hb := bit_turn hq k.toNat
    rw [if_pos rfl] at hb
    have ht := turn_turn hq
    by_cases hh : bitAt bs k.toNat = true
    · refine .inr (.inl ⟨h0, h1, ?_, ?_, turn bs k.toNat, turn_len _ _, ?_, ?_⟩)
      · unfold hasP; rw [hp, hh]; rfl
      · unfold setP; rw [if_neg (by rw [hh]; simp)]
      · unfold clearP hasP; rw [hp, hh]; rfl
      · unfold setP; rw [isP_turn, hp, hb, hh, if_pos (by simp), ht]
    · have hh : bitAt bs k.toNat = false := by simpa using hh
      refine .inr (.inr ⟨h0, h1, ?_, turn bs k.toNat, turn_len _ _, ?_, ?_⟩)
      · unfold hasP; rw [hp, hh]; rfl
      · unfold setP; rw [hp, hh, if_pos (by simp)]
      · unfold clearP hasP; rw [isP_turn, hp, hb, hh, if_pos (by simp), ht]
  · have hn : isP bs k = false := by simpa using hp
    refine .inl ⟨?_, ?_, ?_, ?_⟩
    · unfold hasP; rw [hn]; rfl
    · unfold setP; rw [hn, if_neg (by simp)]
    · unfold clearP hasP; rw [hn]; rfl
    · rw [isP_iff] at hp; omega
theorem Rd.atI {w : World} {A : Option Addr} {n c : Nat} {ys : List Int} (h : Rd w (.slice A n c) (ys.map (Value.int .i64))) {k : Nat} (hk : k < ys.length) : ∃ ad, A = some ad ∧ w.cell? (ad.add k) = some (.int .i64 ys[k]) := by
  obtain ⟨ad, c', e, hc⟩ := h.cell (j := k) (by rw [List.length_map]; exact hk)
  injection e with e1 _ _
  exact ⟨ad, e1, by rw [hc]; simp⟩
theorem Rd.shapeI {w : World} {x : Value} {ys : List Int} (h : Rd w x (ys.map (Value.int .i64))) : ∃ A c, x = .slice A ys.length c := by
  obtain ⟨A, c, rfl, _⟩ := h
  exact ⟨A, c, by rw [List.length_map]⟩

set_option maxHeartbeats 1000000 in
theorem BitsTurns_calls (w : World) {x y : Value} {bs : List UInt8} {ys : List Int} (xx0 : Rd w x (bvs bs)) (ll0 : bs.length ≤ 9223372036854775807)
    (xx1 : Rd w y (ys.map (Value.int .i64))) (ll1 : ys.length ≤ 9223372036854775807) (ww1 : ∀ n ∈ ys, (Lit.int .i64 n).wf = true) :
    Calls Try.prog 6 #[x, y] w fun e w' => e = .returned (.bool true) ∧ Below w.heap.size w w' := by
  obtain ⟨i0, hi, hz0, hz1, hz2⟩ := info_parts Try.info_u8
  have hx0 := xx0
  have hy0 := xx1
  obtain ⟨A, c, rfl⟩ := xx0.shape8
  obtain ⟨B, d, rfl⟩ := xx1.shapeI
  by_cases hg : bs.length ≤ 100 ∧ ys.length ≤ 200
  · obtain ⟨g0, g1⟩ := hg
    go_enter Try.func6, Try.ntmps6
    go_wp2_with fail
    refine (known_calls w).mono ?_
    rintro e w1 ⟨rfl, hB1⟩
    have hx1 := hx0.below hB1
    go_wp2_with (at_builtin; refine stop_app rfl ?_)
    refine Stop.mk (wpList_app _ rfl rfl (us := bvs bs) (base := 0) Try.underlying23 hi hz0 hz1 hz2 rfl (own_built8 w1) rfl (hx1.alloc _) rfl (bvs_one _) ?_ ?_ (Nat.zero_le _) ?_)
    · unfold maxLen; rw [bvs_length]; omega
    · rw [bvs_length]; omega
    intro v1 w2 hown hg hat
    obtain ⟨ho, hB2, hn2⟩ := copied (bs := bs) hown (by rw [bvs_length, Nat.zero_add]) (by simp) hg hat
    have hB := hB1.trans (hB2.mono hB1.size)
    have hn : ∀ k, v1.ownBlock = some k → w.heap.size ≤ k := fun k hk => Nat.le_trans hB1.size (hn2 k hk)
    obtain ⟨A1, k1, rfl⟩ := own_shape ho
    clear hown hg hat hn2 hB2
    go_wp2
    go_loopw [6] (fun i wr => ∃ k : Nat, k ≤ ys.length ∧ i = .int .i64 k ∧ Own8 wr (.slice A1 bs.length k1) bs ∧ Below w.heap.size w wr) (fun i _ => ys.length - (intOf i).toNat)
    case atStart => exact ⟨0, Nat.zero_le _, rfl, ho, hB⟩
    case round =>
      obtain ⟨k, hk, rfl, hor, hBr⟩ := hrel
      by_cases hlt : k < ys.length
      · obtain ⟨ad, rfl, hcy⟩ := (hy0.below hBr).atI hlt
        obtain ⟨n1, n2⟩ := wf64 (ww1 _ (List.getElem_mem hlt))
        generalize ys[k] = n at *
        have HH := Lib.hid (has_calls wr _ bs n hor.rd (by omega) n1 n2)
        have HS := Lib.hid (set_calls wr _ bs n hor (by omega) n1 n2)
        have hlen : bs.length ≤ 1000000000000 := by omega
        have hfit : 8 * (bs.length : Int) ≤ 9223372036854775807 := by omega
        have hor2 := Lib.hid hor
        clear hor
        rcases turn_cases bs n with ⟨e1, e2, e3, e4⟩ | ⟨e0, e1, e2, e3, bs', e4, e5, e6⟩ | ⟨e0, e1, e2, bs', e4, e5, e6⟩
        · rw [e1] at HH
          clear e1
          rcases e4 with e4 | ⟨e4, e5⟩
          all_goals
            go_wp2_with fail
            refine HH.out.mono ?_
            rintro e w3 ⟨rfl, rfl⟩
            go_wp2_with fail
            refine HS.out.mono ?_
            rintro e w3 hm
            obtain ⟨rfl, ho3, hB3⟩ := hm.own hBr hn e2
            have HC := Lib.hid (clear_calls w3 _ bs n ho3 hlen n1 n2)
            have ho3 := Lib.hid ho3
            go_wp2_with fail
            refine HC.out.mono ?_
            rintro e w4 hm
            obtain ⟨rfl, ho4, hB4⟩ := hm.own hB3 hn e3
            go_wp2
            go_roundw
            case rel => exact ⟨k + 1, by omega, rfl, ho4, hB4⟩
            case measure => simp [intOf]; omega
        · rw [e2] at HH
          clear e2
          go_wp2_with fail
          refine HH.out.mono ?_
          rintro e w3 ⟨rfl, rfl⟩
          go_wp2_with fail
          refine HS.out.mono ?_
          rintro e w3 hm
          obtain ⟨rfl, ho3, hB3⟩ := hm.own hBr hn e3
          have HC := Lib.hid (clear_calls w3 _ bs n ho3 hlen n1 n2)
          have ho3 := Lib.hid ho3
          go_wp2_with fail
          refine HC.out.mono ?_
          rintro e w4 hm
          obtain ⟨rfl, ho4, hB4⟩ := hm.own hB3 hn e5
          have HS4 := Lib.hid (set_calls w4 _ bs' n ho4 (by rw [e4]; exact hlen) n1 n2)
          have ho4 := Lib.hid ho4
          go_wp2_with fail
          refine HS4.out.mono ?_
          rintro e w5 hm
          obtain ⟨rfl, ho5, hB5⟩ := hm.own hB4 hn e6
          go_wp2
          go_roundw
          case rel => exact ⟨k + 1, by omega, rfl, ho5, hB5⟩
          case measure => simp [intOf]; omega
        · rw [e2] at HH
          clear e2
          go_wp2_with fail
          refine HH.out.mono ?_
          rintro e w3 ⟨rfl, rfl⟩
          go_wp2_with fail
          refine HS.out.mono ?_
          rintro e w3 hm
          obtain ⟨rfl, ho3, hB3⟩ := hm.own hBr hn e5
          have HC := Lib.hid (clear_calls w3 _ bs' n ho3 (by rw [e4]; exact hlen) n1 n2)
          have ho3 := Lib.hid ho3
          go_wp2_with fail
          refine HC.out.mono ?_
          rintro e w4 hm
          obtain ⟨rfl, ho4, hB4⟩ := hm.own hB3 hn e6
          go_wp2
          go_roundw
          case rel => exact ⟨k + 1, by omega, rfl, ho4, hB4⟩
          case measure => simp [intOf]; omega
      · have s1 := run_str (P := Try.prog) wr 24 9 5 _ _ Try.underlying24 Try.underlying5 Try.underlying9 hor.rd
        have s2 := run_str (P := Try.prog) wr 23 9 5 _ _ Try.underlying23 Try.underlying5 Try.underlying9 (hx0.below hBr)
        unfold str at s1 s2
        go_wp2
        go_ret
        exact ⟨rfl, hBr⟩
  · have hc : 100 < bs.length ∨ (bs.length ≤ 100 ∧ 200 < ys.length) := by omega
    clear hg
    rcases hc with hc | ⟨c1, c2⟩
    all_goals
      go_enter Try.func6, Try.ntmps6
      go_wp2_with fail
      refine (known_calls w).mono ?_
      rintro e w1 ⟨rfl, hB1⟩
      go_wp2
      go_ret
      exact ⟨rfl, hB1⟩
end Go.Proofs.Ytjojefljghoopaa
