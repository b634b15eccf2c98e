/- The document's disk: Is, Last, Read, versions, Image. -/
import Derived.Test.YtjldjfipacagdaaRfm
import Derived.Lib.AppendStr
namespace Go.Proofs.Ytjldjfipacagdaa
open Go.RowKit
theorem own_ge {w : World} {t : TypeId} {size base n : Nat} {v : Value} {xs : List Value} (h : w.ownsRow base t size v n xs) : ∀ j, v.ownBlock = some j → base ≤ j := fun j hj => by
  rcases h.2 with ⟨rfl, _⟩ | ⟨g, cap, cur, rfl, hb, _⟩
  · simp [Value.ownBlock] at hj
  · have e : g = j := by simpa [Value.ownBlock] using hj
    omega
theorem own_belowB {w w' : World} {base e size n : Nat} {v : Value} {xs : List Value} (h : w.ownsRow base e size v n xs) (hb : Below w.heap.size w w') : w'.ownsRow base e size v n xs :=
  ⟨h.1, by
    rcases h.2 with h | ⟨g, cap, cur, rfl, hg0, hg, rest⟩
    · exact .inl h
    · exact .inr ⟨g, cap, cur, rfl, hg0, (hb.block g (Blk.lt hg)).trans hg, rest⟩⟩
def isR (r : Rf) (n : Int) : Bool := decide (0 ≤ n) && decide (n < (r.l.length : Int))
theorem askR_is {r : Rf} {n : Int} (ho : r.off = false) : askR r n = if isR r n = true then 0 else 1 := by
  unfold askR isR
  rw [if_neg (by simp [ho])]
  by_cases h : n < 0 ∨ (r.l.length : Int) ≤ n
  · rw [if_pos h, if_neg]
    simp; omega
  · rw [if_neg h, if_pos]
    simp; omega
set_option maxRecDepth 10000 in
theorem RIs_calls (w : World) (g : Nat) (r : Rf) (S : Nat → Prop) (h : RO w g r S) (n : Int) :
    Calls Try.prog 46 #[.pointer (some ⟨g, 0, none⟩), .int .i64 n] w (Ans w (.bool (isR r n))) := by
  obtain ⟨vl, vw, vp, h, _⟩ := h
  have c0 := h.c0
  obtain ⟨A, c, e⟩ := own_shape h.row
  rw [e] at c0
  unfold isR
  clear h e
  generalize r.l.length = N at *
  by_cases h0 : 0 ≤ n
  · by_cases h1 : n < (N : Int)
    · rw [decide_eq_true h0, decide_eq_true h1]
      go_enter Try.func46, Try.ntmps46
      go_wp2
      go_ret
      exact ⟨rfl, rfl⟩
    · rw [decide_eq_true h0, decide_eq_false h1]
      go_enter Try.func46, Try.ntmps46
      go_wp2
      go_ret
      exact ⟨rfl, rfl⟩
  · rw [decide_eq_false h0, Bool.false_and]
    go_enter Try.func46, Try.ntmps46
    go_wp2
    go_ret
    exact ⟨rfl, rfl⟩
set_option maxRecDepth 10000 in
set_option maxHeartbeats 2000000 in
theorem RLast_calls (w : World) (g : Nat) (r : Rf) (S : Nat → Prop) (h : RO w g r S) (n : Nat) (hn : n < r.l.length) (hN : r.l.length ≤ 16384) (hw : r.wait.length ≤ 1000000) :
    Calls Try.prog 42 #[.pointer (some ⟨g, 0, none⟩), .int .i64 (n : Int)] w (Ans w (str (lastR r n))) := by
  obtain ⟨vl, vw, vp, h, _⟩ := h
  have c0 := h.c0
  have c1 := h.c1
  obtain ⟨lb, lc, el, hL⟩ := h.lat hn
  obtain ⟨A, c, ew⟩ := own_shape h.wt
  rw [el] at c0
  rw [ew] at c1
  have hat : Hid (∀ k (hk : k < r.wait.length), ∃ b, A = some ⟨b, 0, none⟩ ∧ w.cell? ⟨b, k * 2, none⟩ = some (.int .i64 (r.wait[k].1 : Int)) ∧ w.cell? ⟨b, k * 2 + 1, none⟩ = some (str r.wait[k].2)) := fun k hk => by
    obtain ⟨b, c', e, h1, h2⟩ := h.at_ hk
    rw [ew] at e
    injection e with e
    exact ⟨b, e, h1, h2⟩
  have hlast := Lib.hid (fun k (hk : k < r.wait.length) (h1 : r.wait[k].1 = n) (h2 : versL (r.wait.drop (k + 1)) n = []) => lastR_at hk h1 h2)
  have hnone : Hid (versL r.wait n = [] → lastR r n = r.l.getD n []) := lastR_none
  clear h el ew
  generalize r.l.length = N at *
  obtain ⟨L, hL'⟩ : ∃ L, Hid (L = r.wait.length) := ⟨_, rfl⟩
  rw [← hL'.out] at c1 hw
  generalize r.l.getD n [] = bl at *
  unfold str at *
  go_enter Try.func42, Try.ntmps42
  go_wp2
  go_loop [5] (fun i => ∃ k : Nat, k ≤ L ∧ i = .int .i64 ((k : Int) - 1) ∧ Hid (versL (r.wait.drop k) n = [])) (fun i => (RowKit.intOf i + 1).toNat)
  case atStart => exact ⟨L, Nat.le_refl _, by go_num, by show _ = _; rw [hL'.out, List.drop_length]; rfl⟩
  case round =>
    obtain ⟨k, hk, rfl, hd⟩ := hrel
    rcases k with _ | j
    · have hd2 : Hid (versL r.wait n = []) := by show _ = _; simpa using hd.out
      have he := Lib.hid (hnone.out hd2.out)
      clear hd2 hd hlast hat hnone
      go_wp2
      go_ret
      rw [he.out]
      exact ⟨rfl, rfl⟩
    · have hj : j < r.wait.length := by have := hL'.out; omega
      obtain ⟨b, rfl, d0, d1⟩ := hat.out j hj
      have e0 : (((j + 1 : Nat) : Int) - 1) = (j : Int) := by omega
      rw [e0]
      by_cases hq : r.wait[j].1 = n
      · have he := Lib.hid (hlast.out j hj hq hd.out)
        rw [hq] at d0
        generalize r.wait[j].2 = bs at *
        clear hlast hnone hd hq e0
        go_wp2
        go_ret
        rw [he.out]
        exact ⟨rfl, rfl⟩
      · have hd2 := Lib.hid (versL_drop hj hq hd.out)
        have hq2 : ((r.wait[j].1 : Int) == (n : Int)) = false := by rw [beq_eq_false_iff_ne]; omega
        generalize r.wait[j].1 = m at *
        generalize r.wait[j].2 = bs at *
        clear hlast hnone hd e0
        go_wp2
        go_round
        case rel => exact ⟨j, by omega, by go_num, hd2⟩
        case measure => simp [RowKit.intOf]
set_option maxRecDepth 10000 in
theorem RRead_calls (w : World) (g : Nat) (r : Rf) (S : Nat → Prop) (h : RO w g r S) (n : Int) (hN : r.l.length ≤ 16384) (hw : r.wait.length ≤ 1000000) :
    Calls Try.prog 37 #[.pointer (some ⟨g, 0, none⟩), .int .i64 n] w fun e w' => e = .returned (.tuple #[str (readR r n).1, .int .i64 (readR r n).2]) ∧ w = w' := by
  have hI := Lib.hid (RIs_calls w g r S h n)
  have hLa := Lib.hid (fun k hk => RLast_calls w g r S h k hk hN hw)
  obtain ⟨vl, vw, vp, h, _⟩ := h
  have c2 := h.c2
  clear h
  cases ho : r.off
  · have ha := askR_is (n := n) ho
    rw [ho] at c2
    cases hi : isR r n
    · have e : readR r n = ([], 1) := by
        unfold readR
        rw [ha, hi]
        rfl
      rw [e]
      rw [hi] at hI
      clear e ha hi ho hLa
      unfold str
      go_enter Try.func37, Try.ntmps37
      go_wp2_with fail
      refine hI.out.mono ?_
      rintro e w1 ⟨rfl, rfl⟩
      go_wp2
      go_ret2
      exact ⟨rfl, rfl⟩
    · have e : readR r n = (lastR r n.toNat, 0) := by
        unfold readR
        rw [ha, hi]
        rfl
      rw [e]
      have hk : 0 ≤ n ∧ n < (r.l.length : Int) := by unfold isR at hi; simpa using hi
      obtain ⟨k, rfl⟩ : ∃ k : Nat, n = k := ⟨n.toNat, by omega⟩
      have hLk := Lib.hid (hLa.out k (by omega))
      rw [hi] at hI
      rw [Int.toNat_natCast]
      clear e ha hi ho hLa
      go_enter Try.func37, Try.ntmps37
      go_wp2_with fail
      refine hI.out.mono ?_
      rintro e w1 ⟨rfl, rfl⟩
      go_wp2_with fail
      refine hLk.out.mono ?_
      rintro e w1 ⟨rfl, rfl⟩
      go_wp2
      go_ret2
      exact ⟨rfl, rfl⟩
  · have e : readR r n = ([], 6) := by
      unfold readR askR
      rw [if_pos ho]
      rfl
    rw [e]
    rw [ho] at c2
    clear e hI hLa ho
    unfold str
    go_enter Try.func37, Try.ntmps37
    go_wp2
    go_ret2
    exact ⟨rfl, rfl⟩
theorem Try.info_str : (Try.prog.info? 9).map (fun i => (i.zero, i.size, i.bytes)) = some (some (.string ⟨#[]⟩), 1, 16) := by kernel_rfl
def VersOut (w : World) (l : List (List UInt8)) (e : Ending) (w' : World) : Prop := ∃ v, e = .returned v ∧ w'.ownsRow w.heap.size 9 1 v l.length (svs l) ∧ Below w.heap.size w w'
set_option maxRecDepth 10000 in
set_option maxHeartbeats 4000000 in
theorem Rvers_calls (w : World) (g : Nat) (r : Rf) (S : Nat → Prop) (h : RO w g r S) (n : Nat) (hw : r.wait.length ≤ 1000000) :
    Calls Try.prog 47 #[.pointer (some ⟨g, 0, none⟩), .int .i64 (n : Int)] w (VersOut w (versL r.wait n)) := by
  obtain ⟨i0, hi, hz0, hz1, hz2⟩ := info_parts Try.info_str
  obtain ⟨vl, vw, vp, h, _⟩ := h
  have h0 := Lib.hid h
  obtain ⟨A, c, rfl⟩ := own_shape h.wt
  have hvk := Lib.hid (fun k (hk : k < r.wait.length) => versL_take r.wait hk n)
  have hvl := Lib.hid (fun k => Nat.le_trans (versL_le (r.wait.take k) n) (List.length_take_le k r.wait))
  have hve : Hid (versL (r.wait.take r.wait.length) n = versL r.wait n) := by show _ = _; rw [List.take_length]
  have hcl := fun (wr : World) (hB : Below w.heap.size w wr) => (h0.out.below hB).c1
  have hat : Hid (∀ (wr : World) (hB : Below w.heap.size w wr) k (hk : k < r.wait.length), ∃ b, A = some ⟨b, 0, none⟩ ∧ wr.cell? ⟨b, k * 2, none⟩ = some (.int .i64 (r.wait[k].1 : Int)) ∧ wr.cell? ⟨b, k * 2 + 1, none⟩ = some (str r.wait[k].2)) := fun wr hB k hk => by
    obtain ⟨b, c', e, h1, h2⟩ := (h0.out.below hB).at_ hk
    injection e with e
    exact ⟨b, e, h1, h2⟩
  obtain ⟨L, hL'⟩ : ∃ L, Hid (L = r.wait.length) := ⟨_, rfl⟩
  rw [← hL'.out] at hcl hw hve
  have hcl := Lib.hid hcl
  clear h h0
  unfold str at *
  go_enter Try.func47, Try.ntmps47
  go_wp2
  go_loopw [5, 6] (fun o i wr => ∃ (k q : Nat) (A5 : Option Addr) (c5 : Nat), k ≤ L ∧ Hid (q = (versL (r.wait.take k) n).length) ∧ i = .int .i64 (k : Int) ∧ o = .slice A5 q c5 ∧ Hid (wr.ownsRow w.heap.size 9 1 (.slice A5 q c5) q (svs (versL (r.wait.take k) n))) ∧ Hid (Below w.heap.size w wr)) (fun _ i _ => L - (RowKit.intOf i).toNat)
  case atStart => exact ⟨0, 0, none, 0, Nat.zero_le _, rfl, rfl, rfl, World.ownsRow_nil _ _ _ _, Below.refl _ _⟩
  case round =>
    obtain ⟨k, q, A5, c5, hk, hq, rfl, rfl, hrow, hB⟩ := hrel
    have c1 := hcl.out wr hB.out
    by_cases hlt : k < L
    · have hkr : k < r.wait.length := by have := hL'.out; omega
      obtain ⟨b, rfl, d0, d1⟩ := hat.out wr hB.out k hkr
      have hvk := Lib.hid (hvk.out k hkr)
      have hq9 : q ≤ 1000000 := by have h1 := hq.out; have h2 := hvl.out k; omega
      by_cases hm : r.wait[k].1 = n
      · have e1 : Hid (versL (r.wait.take (k + 1)) n = versL (r.wait.take k) n ++ [r.wait[k].2]) := by
          have := hvk.out
          rw [if_pos hm] at this
          exact this
        rw [hm] at d0
        generalize r.wait[k].2 = bs at *
        clear hvk hm hat hcl hvl
        have hrd : Rd (wr.alloc (.cells #[.string ⟨bs.toArray⟩] 9)) (.slice (some ⟨wr.heap.size, 0, none⟩) 1 1) [.string ⟨bs.toArray⟩] := rd_new wr [.string ⟨bs.toArray⟩] 9 1 rfl
        have hrdh := Lib.hid hrd
        have hrow1 := Lib.hid (World.ownsRow.alloc hrow.out (.cells #[.string ⟨bs.toArray⟩] 9))
        clear hrd
        go_wp2_with (at_builtin; refine stop_app rfl ?_)
        have hszB := hB.out.size
        refine Stop.mk (wpList_app _ rfl rfl (us := [.string ⟨bs.toArray⟩]) (base := w.heap.size) Try.underlying54 hi hz0 hz1 hz2 rfl hrow1.out rfl hrdh.out rfl (by intro u hu; simp at hu; subst hu; rfl) ?_ ?_ (by rw [World.size_alloc]; omega) ?_)
        · unfold maxLen; simp only [List.length_cons, List.length_nil]; omega
        · simp only [List.length_cons, List.length_nil]; omega
        intro v9 w9 hown hg hat9
        have hown : w9.ownsRow w.heap.size 9 1 v9 (q + 1) (svs (versL (r.wait.take (k + 1)) n)) := by
          rw [e1.out]
          unfold svs at *
          rw [List.map_append]
          exact hown
        obtain ⟨A9, c9, rfl⟩ := own_shape hown
        have hB9 := Lib.hid ((hB.out.alloc hszB (.cells #[.string ⟨bs.toArray⟩] 9)).grown hg (by rw [World.size_alloc]; omega) (fun j hj => own_ge hrow1.out j hj))
        have hown := Lib.hid hown
        have hq1 : Hid (q + 1 = (versL (r.wait.take (k + 1)) n).length) := by
          show _ = _
          rw [e1.out, List.length_append, ← hq.out]
          rfl
        clear hg hat9 hrow1 hrow hrdh hszB d0 d1 c1 hB hq e1
        go_wp2
        go_roundw
        case rel => exact ⟨k + 1, q + 1, A9, c9, by omega, hq1, by go_num, rfl, hown, hB9⟩
        case measure => simp [RowKit.intOf]; omega
      · have e1 : Hid (versL (r.wait.take (k + 1)) n = versL (r.wait.take k) n) := by
          have := hvk.out
          rw [if_neg hm, List.append_nil] at this
          exact this
        have hq2 : ((r.wait[k].1 : Int) == (n : Int)) = false := by rw [beq_eq_false_iff_ne]; omega
        generalize r.wait[k].1 = m at *
        clear hvk hm hat hcl hvl d1
        go_wp2
        go_roundw
        case rel => exact ⟨k + 1, q, A5, c5, by omega, by show _ = _; rw [e1.out]; exact hq.out, by go_num, rfl, by show World.ownsRow _ _ _ _ _ _ _; rw [e1.out]; exact hrow.out, hB⟩
        case measure => simp [RowKit.intOf]; omega
    · obtain rfl : k = L := by omega
      have hown : Hid (wr.ownsRow w.heap.size 9 1 (.slice A5 q c5) (versL r.wait n).length (svs (versL r.wait n))) := by
        have h1 := hrow.out
        have h2 := hq.out
        rw [hve.out] at h1 h2
        rw [← h2]
        exact h1
      clear hrow hve hat hcl hvl hvk hq
      go_wp2
      go_ret
      exact ⟨_, rfl, hown.out, hB.out⟩
set_option maxRecDepth 10000 in
set_option maxHeartbeats 4000000 in
theorem RImage_calls (w : World) (g : Nat) (r : Rf) (S : Nat → Prop) (h : RO w g r S) (hN : r.l.length ≤ 16384) (hw : r.wait.length ≤ 1000000) (hlen : ∀ k, k ≤ r.l.length → (imgRK r k).length = 512 * k) :
    Calls Try.prog 26 #[.pointer (some ⟨g, 0, none⟩)] w fun e w' => e = .returned (str (imgRK r r.l.length)) ∧ Below w.heap.size w w' := by
  obtain ⟨i0, hi, hz0, hz1, hz2⟩ := info_parts Try.info_u8
  have h0 := Lib.hid h
  have hLa : Hid (∀ (wr : World) (hB : Below w.heap.size w wr) k, k < r.l.length → Calls Try.prog 42 #[.pointer (some ⟨g, 0, none⟩), .int .i64 (k : Int)] wr (Ans wr (str (lastR r k)))) := fun wr hB k hk => RLast_calls wr g r S (h.below hB) k hk hN hw
  obtain ⟨vl, vw, vp, hd, _⟩ := h
  obtain ⟨A, c, rfl⟩ := own_shape hd.row
  have hcl : Hid (∀ (wr : World) (hB : Below w.heap.size w wr), wr.cell? ⟨g, 0, none⟩ = some (.slice A r.l.length c)) := fun wr hB => (hd.below hB).c0
  have hsucc := Lib.hid (imgRK_succ r)
  have hlen0 := Lib.hid hlen
  clear hd hlen
  generalize r.l.length = N at *
  go_enter Try.func26, Try.ntmps26
  go_wp2
  go_loopw [3, 4] (fun o i wr => ∃ (k q : Nat) (A5 : Option Addr) (c5 : Nat), k ≤ N ∧ Hid (q = 512 * k) ∧ i = .int .i64 (k : Int) ∧ o = .slice A5 q c5 ∧ Hid (wr.ownsRow w.heap.size 5 1 (.slice A5 q c5) q (bvs (imgRK r k))) ∧ Hid (Below w.heap.size w wr)) (fun _ i _ => N - (RowKit.intOf i).toNat)
  case atStart => exact ⟨0, 0, none, 0, Nat.zero_le _, rfl, rfl, rfl, World.ownsRow_nil _ _ _ _, Below.refl _ _⟩
  case round =>
    obtain ⟨k, q, A5, c5, hk, hq, rfl, rfl, hrow, hB⟩ := hrel
    have c0 := hcl.out wr hB.out
    by_cases hlt : k < N
    · have hC := Lib.hid (hLa.out wr hB.out k hlt)
      have hs := Lib.hid (hsucc.out k)
      have hl1 := hlen0.out (k + 1) (by omega)
      have hl0 := hlen0.out k (by omega)
      rw [hs.out, List.length_append, hl0] at hl1
      generalize lastR r k = bs at *
      have hbl : bs.length = 512 := by omega
      clear hl1 hl0
      unfold str at hC
      go_wp2_with fail
      refine hC.out.mono ?_
      rintro e w1 ⟨rfl, rfl⟩
      go_wp2_with (at_builtin; refine stop_app rfl ?_)
      refine Stop.mk (Lib.wpList_append_own_string _ rfl _ _ _ _ rfl w.heap.size _ i0 Try.underlying22 Try.underlying9 hi hz0 hz1 hz2 _ q _ rfl hrow.out ⟨bs.toArray⟩ rfl ?_ ?_ hB.out.size ?_)
      · have := hq.out; unfold maxLen; simp [ByteArray.size]; omega
      · have := hq.out; simp [ByteArray.size]; omega
      intro v9 w9 hown hg hat9
      have hown : w9.ownsRow w.heap.size 5 1 v9 (q + 512) (bvs (imgRK r (k + 1))) := by
        rw [hs.out, bvs_append]
        have e1 : Lib.strCells ⟨bs.toArray⟩ = bvs bs := by simp [Lib.strCells, bvs, bv]
        have e2 : (⟨bs.toArray⟩ : ByteArray).size = 512 := by simpa [ByteArray.size] using hbl
        rw [e1, e2] at hown
        exact hown
      obtain ⟨A9, c9, rfl⟩ := own_shape hown
      have hB9 := Lib.hid (hB.out.grown hg hB.out.size (fun j hj => own_ge hrow.out j hj))
      have hown := Lib.hid hown
      clear hg hat9 hrow hB hs hC c0 hcl hLa hsucc hlen0
      go_wp2
      go_roundw
      case rel => exact ⟨k + 1, q + 512, A9, c9, by omega, by show _ = _; have := hq.out; omega, by go_num, rfl, hown, hB9⟩
      case measure => simp [RowKit.intOf]; omega
    · obtain rfl : k = N := by omega
      have hrd := Rd.of_own hrow.out
      have s1 := run_str (P := Try.prog) wr 22 9 5 _ _ Try.underlying22 Try.underlying5 Try.underlying9 hrd
      obtain ⟨bs, hbs⟩ : ∃ bs, Hid (imgRK r k = bs) := ⟨_, rfl⟩
      rw [hbs.out] at s1
      clear hrd hrow hcl hLa hsucc hlen0
      unfold str at *
      go_wp2
      go_ret
      rw [hbs.out]
      exact ⟨rfl, hB.out⟩
end Go.Proofs.Ytjldjfipacagdaa
