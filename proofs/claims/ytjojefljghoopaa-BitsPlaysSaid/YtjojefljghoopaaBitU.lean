import Derived.Test.YtjojefljghoopaaBitT
namespace Go.Proofs.Ytjojefljghoopaa
open Go.RowKit

theorem run_no (bs : List UInt8) (n : Int) : ∀ (d : Nat) (i row : Int), (runG bs n d i row).2 = false → (runG bs n d i row).1 = 0
  | 0, _, _, _ => by simp [runG]
  | d + 1, i, row, h => by
    rw [runG] at h ⊢
    generalize (if hasP bs i = true then 0 else row + 1) = rw' at h ⊢
    by_cases hc : rw' = n
    · rw [if_pos hc] at h; cases h
    · rw [if_neg hc] at h ⊢
      exact run_no bs n d _ _ h
/-- The run that is found is free, and none stands ahead of it. -/
theorem run_yes (bs : List UInt8) (n : Int) (hn : 1 ≤ n) : ∀ (d : Nat) (i row : Int), 0 ≤ row → row < n → (∀ j, i - row ≤ j → j < i → hasP bs j = false) → (runG bs n d i row).2 = true →
    i - row ≤ (runG bs n d i row).1 ∧ (runG bs n d i row).1 + n ≤ i + d ∧ (∀ j, (runG bs n d i row).1 ≤ j → j < (runG bs n d i row).1 + n → hasP bs j = false) ∧
      (∀ j, i - row ≤ j → j < (runG bs n d i row).1 → ¬ ∀ k, j ≤ k → k < j + n → hasP bs k = false)
  | 0, _, _, _, _, _, h => by simp [runG] at h
  | d + 1, i, row, h0, h1, hf, h => by
    rw [runG] at h ⊢
    by_cases hh : hasP bs i = true
    · rw [if_pos hh, if_neg (by omega)] at h ⊢
      obtain ⟨y1, y2, y3, y4⟩ := run_yes bs n hn d (i + 1) 0 (by omega) (by omega) (fun j _ _ => by omega) h
      generalize (runG bs n d (i + 1) 0).1 = r at *
      refine ⟨by omega, by omega, y3, fun j j1 j2 hk => ?_⟩
      by_cases hj : j ≤ i
      · have := hk i hj (by omega)
        rw [hh] at this
        cases this
      · exact y4 j (by omega) j2 hk
    · have hfi : hasP bs i = false := by simpa using hh
      rw [if_neg hh] at h ⊢
      by_cases hr : row + 1 = n
      · rw [if_pos hr] at h ⊢
        simp only
        refine ⟨by omega, by omega, fun j j1 j2 => ?_, fun j j1 j2 => by omega⟩
        rcases Int.lt_or_le j i with hj | hj
        · exact hf j (by omega) hj
        · rw [show j = i by omega]; exact hfi
      · rw [if_neg hr] at h ⊢
        have hf' : ∀ j, i + 1 - (row + 1) ≤ j → j < i + 1 → hasP bs j = false := by
          intro j j1 j2
          rcases Int.lt_or_le j i with hj | hj
          · exact hf j (by omega) hj
          · rw [show j = i by omega]; exact hfi
        obtain ⟨y1, y2, y3, y4⟩ := run_yes bs n hn d (i + 1) (row + 1) (by omega) (by omega) hf' h
        generalize (runG bs n d (i + 1) (row + 1)).1 = r at *
        exact ⟨by omega, by omega, y3, fun j j1 j2 => y4 j (by omega) j2⟩
theorem cnt_free (bs : List UInt8) : ∀ (d : Nat) (i : Int), (∀ j, i ≤ j → j < i + d → hasP bs j = false) → cntG bs d i = 0
  | 0, _, _ => by simp [cntG]
  | d + 1, i, h => by
    rw [cntG, h i (by omega) (by omega), cnt_free bs d (i + 1) (fun j j1 j2 => h j (by omega) (by omega))]
    rfl
theorem has_turn {bs : List UInt8} {m : Nat} (h : m / 8 < bs.length) (hb : bitAt bs m = false) (i : Int) : hasP (turn bs m) i = (decide (i = (m : Int)) || hasP bs i) := by
  unfold hasP
  rw [isP_turn, bit_turn h]
  by_cases hi : i = (m : Int)
  · subst hi
    have hp : isP bs (m : Int) = true := (isP_iff bs m).2 ⟨by omega, by omega⟩
    rw [hp]
    simp [hb]
  · by_cases hp : isP bs i = true
    · have := ((isP_iff bs i).1 hp).1
      rw [if_neg (by omega)]
      simp [hi]
    · have hp : isP bs i = false := by simpa using hp
      rw [hp]
      simp [hi]
theorem cnt_turn {bs : List UInt8} {m : Nat} (h : m / 8 < bs.length) (hb : bitAt bs m = false) : ∀ (d : Nat) (i : Int), cntG (turn bs m) d i = cntG bs d i + (if i ≤ (m : Int) ∧ (m : Int) < i + d then 1 else 0)
  | 0, i => by rw [if_neg (by omega)]; simp [cntG]
  | d + 1, i => by
    rw [cntG, cntG, has_turn h hb, cnt_turn h hb d (i + 1)]
    by_cases hi : i = (m : Int)
    · subst hi
      have hh : hasP bs (m : Int) = false := by unfold hasP; rw [Int.toNat_natCast, hb, Bool.and_false]
      have e1 : ((m : Int) + 1 ≤ (m : Int) ∧ (m : Int) < (m : Int) + 1 + d) = False := by simp; omega
      have e2 : ((m : Int) ≤ (m : Int) ∧ (m : Int) < (m : Int) + ((d + 1 : Nat) : Int)) = True := by simp; omega
      rw [hh]
      simp only [e1, e2, if_true, if_false, decide_true, Bool.true_or, Bool.false_eq_true]
      omega
    · have : decide (i = (m : Int)) = false := decide_eq_false hi
      rw [this, Bool.false_or]
      have e1 : (i + 1 ≤ (m : Int) ∧ (m : Int) < i + 1 + d) = (i ≤ (m : Int) ∧ (m : Int) < i + ((d + 1 : Nat) : Int)) := propext ⟨fun _ => by omega, fun _ => by omega⟩
      simp only [e1]
      omega
/-- The places from i to k have been taken. -/
def Taken (bs cs : List UInt8) (i k : Int) : Prop := cs.length = bs.length ∧ (∀ j, hasP cs j = (decide (i ≤ j ∧ j < k) || hasP bs j)) ∧ countP cs 0 480 = countP bs 0 480 + (k - i)
theorem Taken.start (bs : List UInt8) (i : Int) : Taken bs bs i i := ⟨rfl, fun j => by rw [decide_eq_false (by omega), Bool.false_or], by omega⟩
theorem Taken.step {bs cs : List UInt8} {i k n : Int} (h : Taken bs cs i k) (hl : bs.length ≤ 60) (h0 : 0 ≤ i) (h1 : i ≤ k) (h2 : k < i + n) (hf : ∀ j, i ≤ j → j < i + n → hasP bs j = false) (h3 : i + n ≤ 8 * (bs.length : Int)) :
    ∃ cs', setP cs k = (true, cs') ∧ Taken bs cs' i (k + 1) := by
  obtain ⟨t1, t2, t3⟩ := h
  obtain ⟨m, rfl⟩ := Int.eq_ofNat_of_zero_le (Int.le_trans h0 h1)
  have hq : m / 8 < cs.length := by omega
  have hp : isP cs (m : Int) = true := (isP_iff _ _).2 ⟨by omega, by omega⟩
  have hb : bitAt cs m = false := by
    have := t2 m
    rw [hf m h1 h2, decide_eq_false (by omega)] at this
    unfold hasP at this
    rwa [hp, Bool.true_and, Int.toNat_natCast] at this
  refine ⟨turn cs m, ?_, by rw [turn_len]; exact t1, fun j => ?_, ?_⟩
  · unfold setP; rw [Int.toNat_natCast, if_pos ⟨hp, hb⟩]
  · rw [has_turn hq hb, t2 j, ← Bool.or_assoc, ← Bool.decide_or]
    congr 1
    apply decide_eq_decide.2
    omega
  · have e : ∀ xs : List UInt8, xs.length = bs.length → countP xs 0 480 = cntG xs (8 * bs.length) 0 := by
      intro xs hx
      unfold countP hi lo
      rw [hx]
      congr 1
      omega
    rw [e _ (by rw [turn_len]; exact t1), cnt_turn hq hb, if_pos (by omega), ← e _ t1, t3]
    omega
theorem hi_len {bs cs : List UInt8} (h : cs.length = bs.length) (b : Int) : hi cs b = hi bs b := by unfold hi; rw [h]
theorem runs_no (bs : List UInt8) (a b n : Int) (h : (runP bs a b n).2 = false) : (runP bs a b n).1 = 0 := by
  unfold runP at h ⊢
  split
  · rfl
  · rename_i hn
    rw [if_neg hn] at h
    exact run_no _ _ _ _ _ h
theorem runs_yes {bs : List UInt8} {a b n : Int} (hn : 1 ≤ n) (h : (runP bs a b n).2 = true) :
    a ≤ (runP bs a b n).1 ∧ 0 ≤ (runP bs a b n).1 ∧ (runP bs a b n).1 + n ≤ b ∧ (runP bs a b n).1 + n ≤ 8 * (bs.length : Int) ∧ (∀ j, (runP bs a b n).1 ≤ j → j < (runP bs a b n).1 + n → hasP bs j = false) ∧
      (∀ j, a ≤ j → 0 ≤ j → j < (runP bs a b n).1 → ¬ ∀ k, j ≤ k → k < j + n → hasP bs k = false) := by
  unfold runP at h ⊢
  rw [if_neg (by omega)] at h ⊢
  obtain ⟨y1, y2, y3, y4⟩ := run_yes bs n hn _ _ 0 (by omega) (by omega) (fun j _ _ => by omega) h
  have e1 : lo a = max a 0 := rfl
  have e2 : hi bs b = min b (8 * (bs.length : Int)) := rfl
  generalize (runG bs n (hi bs b - lo a).toNat (lo a) 0).1 = r at *
  refine ⟨by omega, by omega, by omega, by omega, y3, fun j j1 j2 j3 => y4 j (by omega) j3⟩
theorem Taken.again {bs cs : List UInt8} {a b n i : Int} (hn : 1 ≤ n) (h : Taken bs cs i (i + n)) (hi : (runP bs a b n).2 = true) (e : (runP bs a b n).1 = i) (hj : (runP cs a b n).2 = true) : i < (runP cs a b n).1 := by
  obtain ⟨y1, y2, y3, y4, y5, y6⟩ := runs_yes hn hi
  obtain ⟨z1, z2, z3, z4, z5, z6⟩ := runs_yes hn hj
  rw [e] at y1 y2 y3 y4 y5 y6
  generalize (runP cs a b n).1 = j at *
  have hfree : ∀ k, j ≤ k → k < j + n → hasP bs k = false := by
    intro k k1 k2
    have := h.2.1 k
    rw [z5 k k1 k2] at this
    have := this.symm
    rw [Bool.or_eq_false_iff] at this
    exact this.2
  rcases Int.lt_or_le i j with hlt | hle
  · exact hlt
  · rcases Int.lt_or_eq_of_le hle with hlt | rfl
    · exact absurd hfree (y6 j z1 z2 hlt)
    · have := h.2.1 j
      rw [z5 j (by omega) (by omega), decide_eq_true (by omega)] at this
      cases this
theorem was_le (bs : List UInt8) : 0 ≤ countP bs 0 480 ∧ countP bs 0 480 ≤ 480 := by
  unfold countP
  have e1 := cnt_nonneg bs (hi bs 480 - lo 0).toNat (lo 0)
  have e2 := cnt_le bs (hi bs 480 - lo 0).toNat (lo 0)
  have e3 : hi bs 480 = min 480 (8 * (bs.length : Int)) := rfl
  have e4 : lo 0 = 0 := rfl
  omega
/-- All of the law in one: what is found, by cases. -/
theorem runs_law {bs : List UInt8} {a b n : Int} (hl : bs.length ≤ 60) (hn : 1 ≤ n) : ∃ r ok, runP bs a b n = (r, ok) ∧ (ok = false → r = 0) ∧
    (ok = true → a ≤ r ∧ 0 ≤ r ∧ r ≤ b - n ∧ r + n ≤ 480 ∧ countP bs r (r + n) = 0 ∧ (∀ cs k, Taken bs cs r k → r ≤ k → k < r + n → ∃ cs', setP cs k = (true, cs') ∧ Taken bs cs' r (k + 1)) ∧
      ∀ cs, Taken bs cs r (r + n) → (runP cs a b n).2 = true → r < (runP cs a b n).1) := by
  refine ⟨(runP bs a b n).1, (runP bs a b n).2, rfl, runs_no _ _ _ _, fun h => ?_⟩
  obtain ⟨y1, y2, y3, y4, y5, y6⟩ := runs_yes hn h
  refine ⟨y1, y2, by omega, by omega, ?_, fun cs k ht k1 k2 => ht.step hl y2 k1 k2 y5 y4, fun cs ht hj => ht.again hn h rfl hj⟩
  rw [countP_in bs y2 (by omega) y4]
  exact cnt_free bs _ _ fun j j1 j2 => y5 j j1 (by omega)

set_option maxHeartbeats 1000000 in
theorem BitsRuns_calls (w : World) {x : Value} {bs : List UInt8} {a b n : Int} (xx0 : Rd w x (bvs bs)) (ll0 : bs.length ≤ 9223372036854775807) (ww1 : (Lit.int .i64 a).wf = true) (ww2 : (Lit.int .i64 b).wf = true) (ww3 : (Lit.int .i64 n).wf = true) :
    Calls Try.prog 4 #[x, .int .i64 a, .int .i64 b, .int .i64 n] w fun e w' => e = .returned (.bool true) ∧ Below w.heap.size w w' := by
  obtain ⟨a1, a2⟩ := wf64 ww1
  obtain ⟨b1, b2⟩ := wf64 ww2
  obtain ⟨n1, n2⟩ := wf64 ww3
  clear ww1 ww2 ww3
  obtain ⟨i0, hi, hz0, hz1, hz2⟩ := info_parts Try.info_u8
  have hx0 := xx0
  obtain ⟨A, c, rfl⟩ := xx0.shape8
  by_cases hg : bs.length ≤ 60 ∧ 1 ≤ n ∧ n ≤ 480
  · obtain ⟨g0, g1, g2⟩ := hg
    obtain ⟨r, ok, q1, q2, q3⟩ := runs_law (bs := bs) (a := a) (b := b) (n := n) g0 g1
    have HR := fun W x cs hx (hl : cs.length = bs.length) => Lib.hid (run_calls W x cs a b n hx (by omega) (by omega) (by omega) (by omega) (by omega) (by omega) (by omega))
    have HR0 := fun W x hx => HR W x bs hx rfl
    rw [q1] at HR0
    clear q1
    go_enter Try.func4, Try.ntmps4
    go_wp2_with fail
    refine (known_calls w).mono ?_
    rintro e w1 ⟨rfl, hB1⟩
    have hx1 := hx0.below hB1
    go_wp2_with (at_builtin; refine stop_app rfl ?_)
    refine Stop.mk (wpList_app _ rfl rfl (us := bvs bs) (base := 0) Try.underlying23 hi hz0 hz1 hz2 rfl (own_built8 w1) rfl (hx1.alloc _) rfl (bvs_one _) ?_ ?_ (Nat.zero_le _) ?_)
    · unfold maxLen; rw [bvs_length]; omega
    · rw [bvs_length]; omega
    intro v1 w2 hown hg hat
    obtain ⟨ho, hB2, hn2⟩ := copied (bs := bs) hown (by rw [bvs_length, Nat.zero_add]) (by simp) hg hat
    have hB := hB1.trans (hB2.mono hB1.size)
    have hn : ∀ k, v1.ownBlock = some k → w.heap.size ≤ k := fun k hk => Nat.le_trans hB1.size (hn2 k hk)
    obtain ⟨A1, k1, rfl⟩ := own_shape ho
    clear hown hg hat hn2 hB2
    go_wp2_with fail
    refine (HR0 w2 _ ho.rd).out.mono ?_
    rintro e w3 ⟨rfl, rfl⟩
    cases ok
    · have q := q2 rfl
      subst q
      clear q2 q3
      go_wp2
      go_ret
      exact ⟨rfl, hB⟩
    · obtain ⟨p1, p2, p3, p4, p5, p6, p7⟩ := q3 rfl
      clear q2 q3
      have HC := Lib.hid (count_calls w2 _ bs r (r + n) ho.rd (by omega) (by omega) (by omega) (by omega) (by omega))
      have HW := Lib.hid (count_calls w2 _ bs 0 480 ho.rd (by omega) (by omega) (by omega) (by omega) (by omega))
      rw [p5] at HC
      clear p5
      have T : Hid (Taken bs bs r r) := Taken.start bs r
      have hW0 := was_le bs
      have HT : Hid (∀ cs, Taken bs cs r (r + n) → cs.length = bs.length ∧ countP cs 0 480 = countP bs 0 480 + n) := fun cs h => ⟨h.1, by rw [h.2.2]; omega⟩
      have P6 := Lib.hid p6
      have P7 := Lib.hid p7
      clear p6 p7
      generalize countP bs 0 480 = was at *
      obtain ⟨W1, W2⟩ := hW0
      go_wp2_with fail
      refine HC.out.mono ?_
      rintro e w3 ⟨rfl, rfl⟩
      go_wp2_with fail
      refine HW.out.mono ?_
      rintro e w3 ⟨rfl, rfl⟩
      clear HC HW
      go_wp2
      go_loopw [13] (fun i wr => ∃ (k : Int) (cs : List UInt8), r ≤ k ∧ k ≤ r + n ∧ i = .int .i64 k ∧ Hid (Taken bs cs r k) ∧ Hid (Own8 wr (.slice A1 bs.length k1) cs) ∧ Below w.heap.size w wr) (fun i _ => (r + n - intOf i).toNat)
      case atStart => exact ⟨r, bs, by omega, by omega, rfl, T, ho, hB⟩
      case round =>
        obtain ⟨k, cs, k2, k3, rfl, hT, hor, hBr⟩ := hrel
        have hlen : cs.length = bs.length := hT.out.1
        by_cases hlt : k < r + n
        · obtain ⟨cs', e1, hT'⟩ := P6.out cs k hT.out k2 hlt
          have HS := Lib.hid (set_calls wr _ cs k hor.out (by omega) (by omega) (by omega))
          go_wp2_with fail
          refine HS.out.mono ?_
          rintro e w3 hm
          obtain ⟨rfl, ho3, hB3⟩ := hm.own hBr hn e1
          go_wp2
          go_roundw
          case rel => exact ⟨k + 1, cs', by omega, by omega, rfl, hT', ho3, hB3⟩
          case measure => simp [intOf]; omega
        · have hk : k = r + n := by omega
          subst hk
          obtain ⟨_, hcnt⟩ := HT.out cs hT.out
          have HC := Lib.hid (count_calls wr _ cs 0 480 hor.out.rd (by omega) (by omega) (by omega) (by omega) (by omega))
          rw [hcnt] at HC
          have HR1 := HR wr _ cs hor.out.rd hlen
          have h7 := P7.out cs hT.out
          clear hcnt hT
          generalize runP cs a b n = R at *
          obtain ⟨j, ag⟩ := R
          simp only at h7 HR1
          go_wp2_with fail
          refine HR1.out.mono ?_
          rintro e w3 ⟨rfl, rfl⟩
          cases ag
          · clear h7
            go_wp2_with fail
            refine HC.out.mono ?_
            rintro e w3 ⟨rfl, rfl⟩
            go_wp2
            go_ret
            exact ⟨rfl, hBr⟩
          · have h7 := h7 rfl
            go_wp2_with fail
            refine HC.out.mono ?_
            rintro e w3 ⟨rfl, rfl⟩
            go_wp2
            go_ret
            exact ⟨rfl, hBr⟩
  · have hc : 60 < bs.length ∨ (bs.length ≤ 60 ∧ n < 1) ∨ (bs.length ≤ 60 ∧ 1 ≤ n ∧ 480 < n) := by omega
    clear hg
    rcases hc with hc | ⟨c1, c2⟩ | ⟨c1, c2, c3⟩
    all_goals
      go_enter Try.func4, Try.ntmps4
      go_wp2_with fail
      refine (known_calls w).mono ?_
      rintro e w1 ⟨rfl, hB1⟩
      go_wp2
      go_ret
      exact ⟨rfl, hB1⟩
end Go.Proofs.Ytjojefljghoopaa
