/- The document's slots: Name, Encode. -/
import Derived.Test.YtoloogpglnonaaaDrd
namespace Go.Proofs.Ytoloogpglnonaaa
open Go.RowKit
set_option maxRecDepth 10000 in
set_option maxHeartbeats 2000000 in
theorem RName_calls (w : World) (s : List UInt8) (hl : s.length ≤ 9223372036854775807) : Calls Try.prog 16 #[.string ⟨s.toArray⟩] w (Ans w (.bool (nameP s))) := by
  rcases (show s = [] ∨ 48 < s.length ∨ (s ≠ [] ∧ s.length ≤ 48) by by_cases h : s = []; exact .inl h; rcases Nat.lt_or_ge 48 s.length with g | g; exact .inr (.inl g); exact .inr (.inr ⟨h, g⟩)) with h | h | ⟨h1, h2⟩
  · rw [nameP_no s (.inl h)]
    subst h
    go_enter Try.func16, Try.ntmps16
    go_wp2
    go_ret
    exact ⟨rfl, rfl⟩
  · rw [nameP_no s (.inr (.inl h))]
    have hne : (s == []) = false := by
      rw [beq_eq_false_iff_ne]
      rintro rfl
      simp at h
    go_enter Try.func16, Try.ntmps16
    go_wp2
    go_ret
    exact ⟨rfl, rfl⟩
  · by_cases h3 : s = [46]
    · rw [nameP_no s (.inr (.inr (.inl h3)))]
      subst h3
      go_enter Try.func16, Try.ntmps16
      go_wp2
      go_ret
      exact ⟨rfl, rfl⟩
    · by_cases h4 : s = [46, 46]
      · rw [nameP_no s (.inr (.inr (.inr (.inl h4))))]
        subst h4
        go_enter Try.func16, Try.ntmps16
        go_wp2
        go_ret
        exact ⟨rfl, rfl⟩
      · have hIx : Hid (∀ k (hk : k < s.length), (Instr.index 9 (.string ⟨s.toArray⟩) (.int .i64 (k : Int))).run Try.prog w = .ok (.int .u8 (s[k].toNat : Int)) w) := fun k hk => run_str_index w _ s k Try.underlying9 hk
        have hno := Lib.hid (nameP_no s)
        have hyes : Hid (s.all okC = true → nameP s = true) := by
          intro h
          unfold nameP
          simp [h1, h2, h3, h4, h]
        have b1 : (s == []) = false := by rw [beq_eq_false_iff_ne]; exact h1
        have b3 : (s == [46]) = false := by rw [beq_eq_false_iff_ne]; exact h3
        have b4 : (s == [46, 46]) = false := by rw [beq_eq_false_iff_ne]; exact h4
        clear h1 h3 h4
        go_enter Try.func16, Try.ntmps16
        go_wp2
        go_loop [3] (fun i => ∃ k : Nat, k ≤ s.length ∧ i = .int .i64 k ∧ Hid ((s.take k).all okC = true)) (fun i => s.length - (intOf i).toNat)
        case atStart => exact ⟨0, Nat.zero_le _, rfl, rfl⟩
        case round =>
          obtain ⟨k, hk, rfl, hA⟩ := hrel
          by_cases hlt : k < s.length
          · have hix := hIx.out k hlt
            have hbad : Hid (okC s[k] = false → nameP s = false) := fun h => hno.out (.inr (.inr (.inr (.inr (all_bad hlt h)))))
            have hgood : Hid (okC s[k] = true → (s.take (k + 1)).all okC = true) := by
              intro h
              rw [List.take_succ_eq_append_getElem hlt, List.all_append, hA.out]
              simp [h]
            have hb := s[k].toNat_lt
            have hoc : okC s[k] = (decide (33 ≤ s[k].toNat) && decide (s[k].toNat ≤ 126) && decide (s[k].toNat ≠ 47)) := rfl
            rw [hoc] at hbad hgood
            clear hoc
            generalize s[k].toNat = c at *
            rcases (show c < 33 ∨ (33 ≤ c ∧ 126 < c) ∨ (33 ≤ c ∧ c ≤ 126 ∧ c = 47) ∨ (33 ≤ c ∧ c ≤ 126 ∧ c ≠ 47) by omega) with d1 | ⟨d1, d2⟩ | ⟨d1, d2, d3⟩ | ⟨d1, d2, d3⟩
            · have hb2 := Lib.hid (hbad.out (by simp; omega))
              clear hbad hgood
              go_wp2
              go_ret
              rw [hb2.out]
              exact ⟨rfl, rfl⟩
            · have hb2 := Lib.hid (hbad.out (by simp; omega))
              clear hbad hgood
              go_wp2
              go_ret
              rw [hb2.out]
              exact ⟨rfl, rfl⟩
            · have hb2 := Lib.hid (hbad.out (by simp; omega))
              clear hbad hgood
              subst d3
              go_wp2
              go_ret
              rw [hb2.out]
              exact ⟨rfl, rfl⟩
            · have hb2 := Lib.hid (hgood.out (by simp; omega))
              have d4 : ((c : Int) == 47) = false := by rw [beq_eq_false_iff_ne]; omega
              clear hbad hgood
              go_wp2
              go_round
              case rel => exact ⟨k + 1, by omega, by go_num, hb2⟩
              case measure => simp [intOf]; omega
          · have hE : Hid (nameP s = true) := by
              have := hA.out
              rw [List.take_of_length_le (by omega)] at this
              exact hyes.out this
            go_wp2
            go_ret
            rw [hE.out]
            exact ⟨rfl, rfl⟩
theorem Own8.lt_ {w : World} {v : Value} {xs : List UInt8} (h : Own8 w v xs) {k : Nat} (hk : v.ownBlock = some k) : k < w.heap.size := h.lt _ hk
theorem RWrOut.own {w0 w w' : World} {g : Nat} {v : Value} {xs : List UInt8} {e : Ending} (hB : Below w0.heap.size w0 w) (hg : w0.heap.size ≤ g) (hv : ∀ k, v.ownBlock = some k → w0.heap.size ≤ k) (h : RWrOut w g v xs e w') :
    e = .returned (.tuple #[]) ∧ ∃ v', RWr w' g v' xs ∧ Below w0.heap.size w0 w' ∧ ∀ k, v'.ownBlock = some k → w0.heap.size ≤ k := by
  obtain ⟨rfl, v', h1, h2, h3⟩ := h
  refine ⟨rfl, v', h1, hB.trans (h2.below hB.size (Wset.ge hg hv)), fun k hk => ?_⟩
  rcases h3 with e | ⟨j, e, hj⟩
  · exact hv k (by rw [← e]; exact hk)
  · rw [e] at hk; injection hk with hk; rw [← hk]; exact Nat.le_trans hB.size hj
theorem RWr.below {w w' : World} {g : Nat} {v : Value} {xs : List UInt8} (h : RWr w g v xs) (hb : Below w.heap.size w w') : RWr w' g v xs := ⟨h.blk.chg (Chg.of_below hb) (S := fun _ => False) id, Own8.chg h.own (Chg.of_below hb) (S := fun _ => False) (fun _ _ h => h)⟩
set_option maxRecDepth 10000 in
set_option maxHeartbeats 4000000 in
theorem REncodeE_calls (w : World) (e : Ent) (hn : e.name.length ≤ 1000000) (n1 : -9223372036854775808 ≤ e.ino) (n2 : e.ino ≤ 9223372036854775807) : Calls Try.prog 18 #[.agg e.cells] w (ByOut w (encE e)) := by
  have hBl := Lib.hid (encEB_len e)
  have hHl := Lib.hid (encEH_len e)
  have hbx : Blk (w.alloc (.cells e.cells 46)) w.heap.size 46 e.cells := Blk.new _ _ _
  have hwb : Below w.heap.size w (w.alloc (.cells e.cells 46)) := (Below.refl _ _).alloc (Nat.le_refl _) _
  obtain ⟨wE, hwq⟩ : ∃ wE, wE = w.alloc (.cells e.cells 46) := ⟨_, rfl⟩
  rw [← hwq] at hbx hwb
  have hsz : wE.heap.size = w.heap.size + 1 := by rw [hwq]; simp
  obtain ⟨wb, hwb2⟩ : ∃ wb, wb = wE.alloc (.cells #[.slice none 0 0] 73) := ⟨_, rfl⟩
  have hW : RWr wb wE.heap.size (.slice none 0 0) [] := by
    rw [hwb2]
    exact ⟨Blk.new _ _ _, World.ownsRow_nil _ _ _ _⟩
  have hB : Below wE.heap.size wE wb := by rw [hwb2]; exact (Below.refl _ _).alloc (Nat.le_refl _) _
  have hbx := Lib.hid hbx
  have HC : Hid (∀ W, Below wE.heap.size wE W → ∀ j, W.cell? ⟨w.heap.size, j, none⟩ = e.cells[j]?) := by
    intro W hW j
    exact (hbx.out.chg (Chg.of_below hW) (S := fun _ => False) id).cell j
  unfold Ent.cells at HC hwq
  unfold Ent.cells
  have c0 : ((w.alloc (.cells #[.string ⟨e.name.toArray⟩, .int .i64 e.ino] 46)).alloc (.cells #[.slice none 0 0] 73)).cell? ⟨w.heap.size, 0, none⟩ = some (.string ⟨e.name.toArray⟩) := by
    rw [← hwq, ← hwb2]
    exact HC.out wb hB 0
  go_enter Try.func18, Try.ntmps18
  go_wp2_with fail
  rw [← hwq, ← hwb2, ← hsz]
  clear c0
  have hwb := Lib.hid hwb
  have hgn : Hid (w.heap.size < wE.heap.size) := hbx.out.lt
  generalize hgq0 : w.heap.size = gn at *
  have hgq := Lib.hid hgq0
  clear hgq0 hwq hwb2
  have hv : ∀ j, (Value.slice none 0 0).ownBlock = some j → wE.heap.size ≤ j := fun j hj => by simp [Value.ownBlock] at hj
  have hg : wE.heap.size ≤ wE.heap.size := Nat.le_refl _
  obtain ⟨g, hgE⟩ : ∃ g, g = wE.heap.size := ⟨_, rfl⟩
  rw [← hgE] at hW ⊢
  have hg : wE.heap.size ≤ g := by omega
  clear hgE hsz
  refine (WNumber_calls wb g (.slice none 0 0) [] (e.name.length : Int) 1 hW (by simp) (by omega) (by omega) (by omega)).mono ?_
  intro r w2 kk
  rw [les1] at kk
  obtain ⟨rfl, v2, hW, hB, hv⟩ := kk.own hB hg hv
  clear kk
  go_wp2_with fail
  refine (WNumber_calls w2 g v2 ([] ++ [b8 (e.name.length : Int)]) 0 1 hW (by simp) (by omega) (by omega) (by omega)).mono ?_
  intro r w3 kk
  rw [les1] at kk
  obtain ⟨rfl, v3, hW, hB, hv⟩ := kk.own hB hg hv
  clear kk
  have c1 : w3.cell? ⟨gn, 1, none⟩ = some (.int .i64 e.ino) := HC.out w3 hB 1
  go_wp2_with fail
  refine (WNumber_calls w3 g v3 ([] ++ [b8 (e.name.length : Int)] ++ [b8 0]) e.ino 2 hW (by simp) (by omega) n1 n2).mono ?_
  intro r w4 kk
  rw [les2] at kk
  obtain ⟨rfl, v4, hW, hB, hv⟩ := kk.own hB hg hv
  clear kk
  have hW : RWr w4 g v4 (encEH e) := hW
  have c2 : w4.cell? ⟨gn, 0, none⟩ = some (.string ⟨e.name.toArray⟩) := HC.out w4 hB 0
  obtain ⟨c, w5, hcv, hrd, hB5, hs5⟩ := run_conv_bytes w4 e.name
  have hB' := hB.trans (hB5.mono hB.size)
  have hW5 := hW.below hB5
  have hrd := Lib.hid hrd
  have hlt4 := hW.blk.lt
  have hvl4 := fun k hk => hW.own.lt k hk
  clear hB5
  go_wp2_with fail
  refine (WFixed_calls w5 g v4 _ _ e.name 56 56 hW5 hrd.out (fun hne k hk => by
    have hk : w4.heap.size = k := by simpa [Value.ownBlock] using hk
    refine ⟨fun hs => ?_, by omega⟩
    rcases hs with h | h
    · omega
    · have := hvl4 k h
      omega) (by rw [hHl.out]; decide) (by omega) (by decide) (by omega) (by omega)).mono ?_
  intro r w6 kk
  obtain ⟨rfl, v6, hW6, hB6, hv6⟩ := kk.own hB' hg hv
  have hW6 : RWr w6 g v6 (encEB e) := hW6
  clear kk
  have hsh := hW6.own.shape
  rw [hBl.out] at hsh
  obtain ⟨A6, k6, rfl⟩ := hsh
  have cw : w6.cell? ⟨g, 0, none⟩ = some (.slice A6 60 k6) := hW6.blk.cell 0
  go_wp2_with fail
  refine (RSeal_calls w6 _ (encEB e) (by have := Rd.of_own hW6.own; exact this) (by have := hBl.out; omega)).mono ?_
  rintro r w12 ⟨r12, rfl, ho12, hB12, hf12⟩
  have hB12' := hB6.trans (hB12.mono hB6.size)
  have hsz := hB6.size
  go_wp2
  go_ret
  refine ⟨r12, rfl, ho12, by rw [hgq.out]; exact hwb.out.trans (hB12'.mono (Nat.le_of_lt hgn.out)), fun j hj => ?_⟩
  rw [hgq.out]
  have := hf12 j hj
  have := hgn.out
  omega
end Go.Proofs.Ytoloogpglnonaaa
