import Derived.Test.YtjojefljghoopaaBitK
namespace Go.Proofs.Ytjojefljghoopaa
open Go.RowKit

/- Plain laws of counts and of the first free place. -/
theorem cnt_split (bs : List UInt8) (e : Nat) : ∀ (d : Nat) (i : Int), cntG bs (d + e) i = cntG bs d i + cntG bs e (i + d)
  | 0, i => by simp [cntG]
  | d + 1, i => by
    have h := cnt_split bs e d (i + 1)
    rw [Nat.add_right_comm, cntG, cntG, h]
    have : i + 1 + (d : Int) = i + ((d + 1 : Nat) : Int) := by omega
    rw [this]
    omega
theorem cnt_nonneg (bs : List UInt8) : ∀ (d : Nat) (i : Int), 0 ≤ cntG bs d i
  | 0, _ => by simp [cntG]
  | d + 1, i => by have := cnt_nonneg bs d (i + 1); rw [cntG]; split <;> omega
theorem cnt_le (bs : List UInt8) : ∀ (d : Nat) (i : Int), cntG bs d i ≤ d
  | 0, _ => by simp [cntG]
  | d + 1, i => by have := cnt_le bs d (i + 1); rw [cntG]; split <;> omega
theorem first_no (bs : List UInt8) : ∀ (d : Nat) (i : Int), (runG bs 1 d i 0).2 = false → cntG bs d i = d
  | 0, _, _ => by simp [cntG]
  | d + 1, i, h => by
    rw [runG] at h
    rw [cntG]
    by_cases hh : hasP bs i = true
    · rw [if_pos hh, if_neg (by decide)] at h
      rw [if_pos hh, first_no bs d (i + 1) h]
      omega
    · rw [if_neg hh, if_pos (by decide)] at h
      cases h
theorem first_yes (bs : List UInt8) : ∀ (d : Nat) (i : Int), (runG bs 1 d i 0).2 = true → i ≤ (runG bs 1 d i 0).1 ∧ (runG bs 1 d i 0).1 < i + d ∧ hasP bs (runG bs 1 d i 0).1 = false ∧
      cntG bs ((runG bs 1 d i 0).1 - i).toNat i = (runG bs 1 d i 0).1 - i ∧ cntG bs d i < d
  | 0, _, h => by simp [runG] at h
  | d + 1, i, h => by
    rw [runG] at h ⊢
    rw [cntG]
    by_cases hh : hasP bs i = true
    · rw [if_pos hh, if_neg (by decide)] at h ⊢
      obtain ⟨h1, h2, h3, h4, h5⟩ := first_yes bs d (i + 1) h
      rw [if_pos hh]
      generalize (runG bs 1 d (i + 1) 0).1 = j at *
      refine ⟨by omega, by omega, h3, ?_, by omega⟩
      have e : (j - i).toNat = (j - (i + 1)).toNat + 1 := by omega
      rw [e, cntG, if_pos hh, h4]
      omega
    · rw [if_neg hh, if_pos (by decide)]
      rw [if_neg hh]
      have hf : hasP bs i = false := by simpa using hh
      have := cnt_le bs d (i + 1)
      refine ⟨by simp, by simp; omega, by simpa using hf, by simp [cntG], by omega⟩
theorem countP_in (bs : List UInt8) {a b : Int} (h0 : 0 ≤ a) (h1 : a ≤ b) (h2 : b ≤ 8 * (bs.length : Int)) : countP bs a b = cntG bs (b - a).toNat a := by
  unfold countP lo hi
  rw [show max a 0 = a by omega, show min b (8 * (bs.length : Int)) = b by omega]
theorem first_law (bs : List UInt8) {a m b : Int} (h0 : 0 ≤ a) (h1 : a ≤ m) (h2 : m ≤ b) (h3 : b ≤ 8 * (bs.length : Int)) :
    ∃ N C1 C2 i, ∃ ok : Bool, countP bs a b = N ∧ countP bs a m = C1 ∧ countP bs m b = C2 ∧ runP bs a b 1 = (i, ok) ∧ N = C1 + C2 ∧ 0 ≤ C1 ∧ 0 ≤ C2 ∧ C1 ≤ m - a ∧ C2 ≤ b - m ∧
      (ok = false → N = b - a) ∧ (ok = true → N < b - a ∧ a ≤ i ∧ i < b ∧ hasP bs i = false ∧ countP bs a i = i - a) := by
  refine ⟨_, _, _, (runP bs a b 1).1, (runP bs a b 1).2, rfl, rfl, rfl, rfl, ?_⟩
  have hr : runP bs a b 1 = runG bs 1 (b - a).toNat a 0 := by
    unfold runP lo hi
    rw [if_neg (by decide), show max a 0 = a by omega, show min b (8 * (bs.length : Int)) = b by omega]
  rw [hr, countP_in bs h0 (Int.le_trans h1 h2) h3, countP_in bs h0 h1 (Int.le_trans h2 h3), countP_in bs (Int.le_trans h0 h1) h2 h3]
  have s := cnt_split bs (b - m).toNat (m - a).toNat a
  rw [show (m - a).toNat + (b - m).toNat = (b - a).toNat by omega, show a + ((m - a).toNat : Int) = m by omega] at s
  have e1 := cnt_nonneg bs (m - a).toNat a
  have e2 := cnt_nonneg bs (b - m).toNat m
  have e3 := cnt_le bs (m - a).toNat a
  have e4 := cnt_le bs (b - m).toNat m
  refine ⟨s, e1, e2, by omega, by omega, fun h => ?_, fun h => ?_⟩
  · rw [first_no bs _ _ h]; omega
  · obtain ⟨y1, y2, y3, y4, y5⟩ := first_yes bs _ _ h
    refine ⟨by omega, y1, by omega, y3, ?_⟩
    rw [countP_in bs h0 y1 (by omega), y4]

theorem bvs_one (a : List UInt8) : ∀ u ∈ bvs a, u.oneCell' = true := by
  intro u hu
  obtain ⟨b, _, rfl⟩ := List.mem_map.1 hu
  rfl
theorem own_built8 (w : World) : (w.alloc (.cells #[] 5)).ownsRow 0 5 1 (.slice (some ⟨w.heap.size, 0, none⟩) 0 0) 0 ([] : List Value) := own_mk8 w 0 (Nat.zero_le _)
/-- What append([]byte{}, b...) leaves. -/
theorem copied {w w2 : World} {v : Value} {bs : List UInt8} {n : Nat} {cs : List Value} (hown : w2.ownsRow 0 5 1 v n cs) (hn : n = bs.length) (hcs : cs = bvs bs)
    (hg : (w.alloc (.cells #[] 5)).grownBy w2 (some w.heap.size)) (hat : v.ownBlock = some w.heap.size ∨ v.ownBlock = some (w.alloc (.cells #[] 5)).heap.size) :
    Own8 w2 v bs ∧ Below w.heap.size w w2 ∧ (∀ k, v.ownBlock = some k → w.heap.size ≤ k) := by
  subst hn hcs
  refine ⟨hown, (((Chg.refl (fun k => w.heap.size ≤ k) w).alloc _).grown hg fun k hk _ => by cases hk; exact Nat.le_refl _).below (Nat.le_refl _) fun k hk => hk, fun k hk => ?_⟩
  rcases hat with e | e
  · rw [e] at hk; cases hk; exact Nat.le_refl _
  · rw [e] at hk; cases hk; simp

set_option maxHeartbeats 1000000 in
theorem BitsCounts_calls (w : World) {x : Value} {bs : List UInt8} {a m b : Int} (xx0 : Rd w x (bvs bs)) (ll0 : bs.length ≤ 9223372036854775807) (ww1 : (Lit.int .i64 a).wf = true) (ww2 : (Lit.int .i64 m).wf = true) (ww3 : (Lit.int .i64 b).wf = true) :
    Calls Try.prog 5 #[x, .int .i64 a, .int .i64 m, .int .i64 b] w fun e w' => e = .returned (.bool true) ∧ Below w.heap.size w w' := by
  obtain ⟨a1, a2⟩ := wf64 ww1
  obtain ⟨m1, m2⟩ := wf64 ww2
  obtain ⟨b1, b2⟩ := wf64 ww3
  clear ww1 ww2 ww3
  obtain ⟨i0, hi, hz0, hz1, hz2⟩ := info_parts Try.info_u8
  have hx0 := xx0
  obtain ⟨A, c, rfl⟩ := xx0.shape8
  by_cases hg : bs.length ≤ 100 ∧ 0 ≤ a ∧ a ≤ m ∧ m ≤ b ∧ b ≤ 8 * (bs.length : Int)
  · obtain ⟨g0, g1, g2, g3, g4⟩ := hg
    obtain ⟨N, C1, C2, i, ok, q1, q2, q3, q4, q5, q6, q7, q8, q9, q10, q11⟩ := first_law bs g1 g2 g3 g4
    have HN := fun W x hx => Lib.hid (count_calls W x bs a b hx (by omega) (by omega) (by omega) (by omega) (by omega))
    have HC1 := fun W x hx => Lib.hid (count_calls W x bs a m hx (by omega) (by omega) (by omega) (by omega) (by omega))
    have HC2 := fun W x hx => Lib.hid (count_calls W x bs m b hx (by omega) (by omega) (by omega) (by omega) (by omega))
    have HF := fun W x hx => Lib.hid (first_calls W x bs a b hx (by omega) (by omega) (by omega) (by omega) (by omega))
    rw [q1] at HN; rw [q2] at HC1; rw [q3] at HC2; rw [q4] at HF
    clear q1 q2 q3 q4
    subst q5
    have HH := fun (h1 : a ≤ i) (h2 : i < b) W x hx => Lib.hid (has_calls W x bs i hx (by omega) (by omega) (by omega))
    have HCi := fun (h1 : a ≤ i) (h2 : i < b) W x hx => Lib.hid (count_calls W x bs a i hx (by omega) (by omega) (by omega) (by omega) (by omega))
    go_enter Try.func5, Try.ntmps5
    go_wp2_with fail
    refine (known_calls w).mono ?_
    rintro e w1 ⟨rfl, hB1⟩
    have hx1 := hx0.below hB1
    go_wp2_with (at_builtin; refine stop_app rfl ?_)
    refine Stop.mk (wpList_app _ rfl rfl (us := bvs bs) (base := 0) Try.underlying23 hi hz0 hz1 hz2 rfl (own_built8 w1) rfl (hx1.alloc _) rfl (bvs_one _) ?_ ?_ (Nat.zero_le _) ?_)
    · unfold maxLen; rw [bvs_length]; omega
    · rw [bvs_length]; omega
    intro v1 w2 hown hg hat
    obtain ⟨ho, hB2, hn2⟩ := copied (bs := bs) hown (by rw [bvs_length, Nat.zero_add]) (by simp) hg hat
    have hB := hB1.trans (hB2.mono hB1.size)
    obtain ⟨A1, k1, rfl⟩ := own_shape ho
    have hr2 := ho.rd
    clear hown hg hat
    go_wp2_with fail
    refine (HN w2 _ hr2).out.mono ?_
    rintro e w3 ⟨rfl, rfl⟩
    go_wp2_with fail
    refine (HF w2 _ hr2).out.mono ?_
    rintro e w3 ⟨rfl, rfl⟩
    cases ok
    · have q := q10 rfl
      have p1 : C1 + C2 ≤ b - a := by omega
      have p2 : b - a ≤ C1 + C2 := by omega
      clear q10 q11 q
      go_wp2_with fail
      refine (HC1 w2 _ hr2).out.mono ?_
      rintro e w3 ⟨rfl, rfl⟩
      go_wp2_with fail
      refine (HC2 w2 _ hr2).out.mono ?_
      rintro e w3 ⟨rfl, rfl⟩
      go_wp2
      go_ret
      exact ⟨rfl, hB⟩
    · obtain ⟨p1, p2, p3, p4, p5⟩ := q11 rfl
      have HH := HH p2 p3
      have HCi := HCi p2 p3
      rw [p4] at HH
      rw [p5] at HCi
      clear q10 q11 p4 p5
      go_wp2_with fail
      refine (HC1 w2 _ hr2).out.mono ?_
      rintro e w3 ⟨rfl, rfl⟩
      go_wp2_with fail
      refine (HC2 w2 _ hr2).out.mono ?_
      rintro e w3 ⟨rfl, rfl⟩
      go_wp2_with fail
      refine (HH w2 _ hr2).out.mono ?_
      rintro e w3 ⟨rfl, rfl⟩
      go_wp2_with fail
      refine (HCi w2 _ hr2).out.mono ?_
      rintro e w3 ⟨rfl, rfl⟩
      go_wp2
      go_ret
      exact ⟨rfl, hB⟩
  · have hc : 100 < bs.length ∨ (bs.length ≤ 100 ∧ a < 0) ∨ (bs.length ≤ 100 ∧ 0 ≤ a ∧ m < a) ∨ (bs.length ≤ 100 ∧ 0 ≤ a ∧ a ≤ m ∧ b < m) ∨ (bs.length ≤ 100 ∧ 0 ≤ a ∧ a ≤ m ∧ m ≤ b ∧ 8 * (bs.length : Int) < b) := by omega
    clear hg
    rcases hc with hc | ⟨c1, c2⟩ | ⟨c1, c2, c3⟩ | ⟨c1, c2, c3, c4⟩ | ⟨c1, c2, c3, c4, c5⟩
    all_goals
      go_enter Try.func5, Try.ntmps5
      go_wp2_with fail
      refine (known_calls w).mono ?_
      rintro e w1 ⟨rfl, hB1⟩
      go_wp2
      go_ret
      exact ⟨rfl, hB1⟩
end Go.Proofs.Ytjojefljghoopaa
