/- Names of directory entries: what dir.Name and the document's Name answer. -/
import Derived.Test.YtoloogpglnonaaaDec
namespace Go.Proofs.Ytoloogpglnonaaa
open Go.RowKit
def okC (b : UInt8) : Bool := decide (33 ≤ b.toNat) && decide (b.toNat ≤ 126) && decide (b.toNat ≠ 47)
def nameP (s : List UInt8) : Bool := !(s == []) && decide (s.length ≤ 48) && !(s == [46]) && !(s == [46, 46]) && s.all okC
theorem run_str_index {P : Program} (w : World) (t : TypeId) (s : List UInt8) (k : Nat) (ht : P.underlying t = some .string) (hk : k < s.length) : (Instr.index t (.string ⟨s.toArray⟩) (.int .i64 (k : Int))).run P w = .ok (.int .u8 (s[k].toNat : Int)) w := by
  have h1 : (⟨s.toArray⟩ : ByteArray)[k]? = some s[k] := by
    rw [getElem?_pos (⟨s.toArray⟩ : ByteArray) k (by simpa [ByteArray.size] using hk)]
    rfl
  simp [Instr.index, asIntOf, Sem.run_bind, run_underlying ht, h1]
theorem nameP_no (s : List UInt8) (h : s = [] ∨ 48 < s.length ∨ s = [46] ∨ s = [46, 46] ∨ s.all okC = false) : nameP s = false := by
  unfold nameP
  rcases h with h | h | h | h | h
  · simp [h]
  · have : ¬ s.length ≤ 48 := by omega
    simp [this]
  · simp [h]
  · simp [h]
  · simp [h]
theorem all_bad {s : List UInt8} {k : Nat} (hk : k < s.length) (h : okC s[k] = false) : s.all okC = false := by
  rw [List.all_eq_false]
  exact ⟨s[k], List.getElem_mem hk, by simp [h]⟩
set_option maxRecDepth 10000 in
set_option maxHeartbeats 2000000 in
theorem Name_calls (w : World) (s : List UInt8) (hl : s.length ≤ 9223372036854775807) : Calls Try.prog 15 #[.string ⟨s.toArray⟩] w (Ans w (.bool (nameP s))) := by
  rcases (show s = [] ∨ 48 < s.length ∨ (s ≠ [] ∧ s.length ≤ 48) by by_cases h : s = []; exact .inl h; rcases Nat.lt_or_ge 48 s.length with g | g; exact .inr (.inl g); exact .inr (.inr ⟨h, g⟩)) with h | h | ⟨h1, h2⟩
  · rw [nameP_no s (.inl h)]
    subst h
    go_enter Try.func15, Try.ntmps15
    go_wp2
    go_ret
    exact ⟨rfl, rfl⟩
  · rw [nameP_no s (.inr (.inl h))]
    have hne : (s == []) = false := by
      rw [beq_eq_false_iff_ne]
      rintro rfl
      simp at h
    go_enter Try.func15, Try.ntmps15
    go_wp2
    go_ret
    exact ⟨rfl, rfl⟩
  · by_cases h3 : s = [46]
    · rw [nameP_no s (.inr (.inr (.inl h3)))]
      subst h3
      go_enter Try.func15, Try.ntmps15
      go_wp2
      go_ret
      exact ⟨rfl, rfl⟩
    · by_cases h4 : s = [46, 46]
      · rw [nameP_no s (.inr (.inr (.inr (.inl h4))))]
        subst h4
        go_enter Try.func15, Try.ntmps15
        go_wp2
        go_ret
        exact ⟨rfl, rfl⟩
      · have hIx : Hid (∀ k (hk : k < s.length), (Instr.index 9 (.string ⟨s.toArray⟩) (.int .i64 (k : Int))).run Try.prog w = .ok (.int .u8 (s[k].toNat : Int)) w) := fun k hk => run_str_index w _ s k Try.underlying9 hk
        have hno := Lib.hid (nameP_no s)
        have hyes : Hid (s.all okC = true → nameP s = true) := by
          intro h
          unfold nameP
          simp [h1, h2, h3, h4, h]
        have b1 : (s == []) = false := by rw [beq_eq_false_iff_ne]; exact h1
        have b3 : (s == [46]) = false := by rw [beq_eq_false_iff_ne]; exact h3
        have b4 : (s == [46, 46]) = false := by rw [beq_eq_false_iff_ne]; exact h4
        clear h1 h3 h4
        go_enter Try.func15, Try.ntmps15
        go_wp2
        go_loop [21] (fun i => ∃ k : Nat, k ≤ s.length ∧ i = .int .i64 k ∧ Hid ((s.take k).all okC = true)) (fun i => s.length - (intOf i).toNat)
        case atStart => exact ⟨0, Nat.zero_le _, rfl, rfl⟩
        case round =>
          obtain ⟨k, hk, rfl, hA⟩ := hrel
          by_cases hlt : k < s.length
          · have hix := hIx.out k hlt
            have hbad : Hid (okC s[k] = false → nameP s = false) := fun h => hno.out (.inr (.inr (.inr (.inr (all_bad hlt h)))))
            have hgood : Hid (okC s[k] = true → (s.take (k + 1)).all okC = true) := by
              intro h
              rw [List.take_succ_eq_append_getElem hlt, List.all_append, hA.out]
              simp [h]
            have hb := s[k].toNat_lt
            have hoc : okC s[k] = (decide (33 ≤ s[k].toNat) && decide (s[k].toNat ≤ 126) && decide (s[k].toNat ≠ 47)) := rfl
            rw [hoc] at hbad hgood
            clear hoc
            generalize s[k].toNat = c at *
            rcases (show c < 33 ∨ (33 ≤ c ∧ 126 < c) ∨ (33 ≤ c ∧ c ≤ 126 ∧ c = 47) ∨ (33 ≤ c ∧ c ≤ 126 ∧ c ≠ 47) by omega) with d1 | ⟨d1, d2⟩ | ⟨d1, d2, d3⟩ | ⟨d1, d2, d3⟩
            · have hb2 := Lib.hid (hbad.out (by simp; omega))
              clear hbad hgood
              go_wp2
              go_ret
              rw [hb2.out]
              exact ⟨rfl, rfl⟩
            · have hb2 := Lib.hid (hbad.out (by simp; omega))
              clear hbad hgood
              go_wp2
              go_ret
              rw [hb2.out]
              exact ⟨rfl, rfl⟩
            · have hb2 := Lib.hid (hbad.out (by simp; omega))
              clear hbad hgood
              subst d3
              go_wp2
              go_ret
              rw [hb2.out]
              exact ⟨rfl, rfl⟩
            · have hb2 := Lib.hid (hgood.out (by simp; omega))
              have d4 : ((c : Int) == 47) = false := by rw [beq_eq_false_iff_ne]; omega
              clear hbad hgood
              go_wp2
              go_round
              case rel => exact ⟨k + 1, by omega, by go_num, hb2⟩
              case measure => simp [intOf]; omega
          · have hE : Hid (nameP s = true) := by
              have := hA.out
              rw [List.take_of_length_le (by omega)] at this
              exact hyes.out this
            go_wp2
            go_ret
            rw [hE.out]
            exact ⟨rfl, rfl⟩
theorem isInode_calls (w : World) (n : Int) : Calls Try.prog 24 #[.int .i64 n] w (Ans w (.bool (decide (1 ≤ n) && decide (n ≤ 65535)))) := by
  by_cases h : 1 ≤ n
  · have h1 : decide (1 ≤ n) = true := by simpa using h
    rw [h1]
    go_enter Try.func24, Try.ntmps24
    go_wp2
    go_ret
    refine ⟨?_, rfl⟩
    simp
  · have h1 : decide (1 ≤ n) = false := by simpa using h
    rw [h1]
    go_enter Try.func24, Try.ntmps24
    go_wp2
    go_ret
    exact ⟨rfl, rfl⟩
def dblocks (n : Nat) : Nat := (n + 7) / 8 * 512
theorem dblocks_calls (w : World) (n : Nat) (h : n ≤ 1000000000) : Calls Try.prog 29 #[.int .i64 n] w (Ans w (.int .i64 (dblocks n))) := by
  have e : ((dblocks n : Nat) : Int) = ((n : Int) + 7) / 8 * 512 := by unfold dblocks; omega
  rw [e]
  clear e
  go_enter Try.func29, Try.ntmps29
  go_wp2
  go_ret
  refine ⟨?_, rfl⟩
  show Ending.returned (.int .i64 _) = Ending.returned (.int .i64 _)
  congr 2
  omega
end Go.Proofs.Ytoloogpglnonaaa
