/- Plain laws on directories: names taken and put again. -/
import Derived.Test.YtoloogpglnonaaaDpl
namespace Go.Proofs.Ytoloogpglnonaaa
open Go.RowKit
def agK (m : Nat) : List UInt8 := 97 :: 103 :: 97 :: 105 :: 110 :: nameK m
def frees (es : List Ent) : Nat := es.countP fun e => e.name == []
structure GS (n i : Nat) (es : List Ent) : Prop where
  len : es.length = n
  at_ : ∀ (j : Nat) (h : j < es.length), es[j] = ⟨nameK j, (j : Int) + 1⟩ ∨ es[j] = ⟨[], 0⟩ ∨ ∃ m, m < i ∧ es[j].name = agK m
theorem agK_ok : ∀ i, i < 64 → nameP (agK i) = true := by decide +kernel
theorem agK_inj {a b : Nat} (ha : a < 64) (hb : b < 64) (h : agK a = agK b) : a = b := by
  unfold agK at h
  simp only [List.cons.injEq, true_and] at h
  exact nameK_inj a ha b hb h
theorem agK_ne (i j : Nat) : nameK j ≠ agK i := by
  intro h
  have := congrArg List.length h
  simp [agK, nameK_len] at this
theorem countP_set {p : Ent → Bool} : ∀ (l : List Ent) (j : Nat) (h : j < l.length) (x : Ent), (l.set j x).countP p + (if p l[j] then 1 else 0) = l.countP p + (if p x then 1 else 0)
  | [], j, h, x => by simp at h
  | a :: r, 0, h, x => by
    simp only [List.set_cons_zero, List.countP_cons, List.getElem_cons_zero]
    omega
  | a :: r, j + 1, h, x => by
    have := countP_set (p := p) r j (by simpa using h) x
    simp only [List.set_cons_succ, List.countP_cons, List.getElem_cons_succ]
    omega
theorem findI_neg (p : Ent → Bool) (es : List Ent) (h : findI p es 0 < 0) : ∀ i (hi : i < es.length), p es[i] = false := by
  intro i
  induction i using Nat.strongRecOn with
  | ind i ih =>
    intro hi
    cases e : p es[i] with
    | false => rfl
    | true =>
      have := findI_hit p es i hi (fun k hk hki => ih k hki hk) e
      omega
theorem GS.gen (n : Nat) : GS n 0 (genE n) := ⟨genE_len n, fun j h => .inl (genE_get n j h)⟩
theorem frees_gen (n : Nat) : frees (genE n) = 0 := by
  unfold frees
  rw [List.countP_eq_zero]
  intro e he
  obtain ⟨j, hj, rfl⟩ := List.getElem_of_mem he
  rw [genE_get]
  simp [nameK_ne]
theorem GS.take {n : Nat} {es : List Ent} (h : GS n 0 es) (hn : n ≤ 60) {k : Nat} (hk : k < 64) :
    takeP3 es (nameK k) = ([], 0, 8) ∨ ∃ es', takeP3 es (nameK k) = (es', (k : Int) + 1, 0) ∧ GS n 0 es' ∧ frees es' = frees es + 1 := by
  unfold takeP3
  rcases atP_cases es (nameK k) with h1 | ⟨j, h1, hj, hnm⟩
  · rw [h1, if_pos (by decide)]
    exact .inl rfl
  · rw [h1, if_neg (by omega), Int.toNat_natCast]
    have hj2 : es[j] = ⟨nameK k, (k : Int) + 1⟩ ∧ j = k := by
      rcases h.at_ j hj with e | e | ⟨m, hm, _⟩
      · have hjn := h.len
        rw [e] at hnm
        have := nameK_inj j (by omega) k hk hnm
        subst this
        exact ⟨e, rfl⟩
      · rw [e] at hnm
        exact absurd hnm.symm (nameK_ne k)
      · omega
    obtain ⟨e, rfl⟩ := hj2
    refine .inr ⟨es.set j ⟨[], 0⟩, ?_, ⟨by rw [List.length_set]; exact h.len, fun i hi => ?_⟩, ?_⟩
    · rw [List.getD_eq_getElem?_getD, List.getElem?_eq_getElem hj, e]
      rfl
    · by_cases hij : j = i
      · subst hij
        exact .inr (.inl (List.getElem_set_self (by simpa using hi)))
      · rw [List.getElem_set_ne hij]
        exact h.at_ i (by simpa using hi)
    · have := countP_set (p := fun e => e.name == []) es j hj ⟨[], 0⟩
      rw [e] at this
      have h3 : (nameK j == ([] : List UInt8)) = false := by simp [nameK_ne]
      simp only [h3, Bool.false_eq_true, if_false, beq_self_eq_true, if_true] at this
      exact this
theorem GS.put {n i : Nat} {es : List Ent} (h : GS n i es) (hn : n ≤ 60) (hi : i < 64) (hf : 0 < frees es) :
    ∃ es', putP es (agK i) 9 = (es', 0, 0) ∧ GS n (i + 1) es' ∧ frees es' + 1 = frees es := by
  have hat : atP es (agK i) = -1 := by
    refine atP_miss _ _ (fun j hj e => ?_)
    rcases h.at_ j hj with e1 | e1 | ⟨m, hm, e1⟩
    · rw [e1] at e
      exact agK_ne _ _ e
    · rw [e1] at e
      cases e
    · rw [e1] at e
      have := agK_inj (by omega) hi e
      omega
  have hfr : ∃ j, freeI es = ((j : Nat) : Int) ∧ ∃ hj : j < es.length, es[j].name = [] := by
    unfold freeI
    rcases findI_le (fun e => e.name == []) es 0 with e | ⟨j, e, hj, hp⟩
    · exfalso
      have h0 := findI_neg _ es (by rw [e]; decide)
      have : frees es = 0 := by
        unfold frees
        rw [List.countP_eq_zero]
        intro x hx
        obtain ⟨j, hj, rfl⟩ := List.getElem_of_mem hx
        rw [h0 j hj]
        decide
      omega
    · exact ⟨j, by rw [e, Nat.zero_add], hj, by simpa using hp⟩
  obtain ⟨j, hfj, hj, hjn⟩ := hfr
  have hL : putL es ⟨agK i, 9⟩ = es.set j ⟨agK i, 9⟩ := by
    unfold putL
    rw [hfj, if_neg (by omega), Int.toNat_natCast]
  refine ⟨es.set j ⟨agK i, 9⟩, ?_, ⟨by rw [List.length_set]; exact h.len, fun k hk => ?_⟩, ?_⟩
  · unfold putP
    rw [agK_ok i hi, if_neg (by decide), if_neg (by decide), hat, if_neg (by decide), hL, List.length_set, Int.sub_self]
  · by_cases hjk : j = k
    · subst hjk
      exact .inr (.inr ⟨i, by omega, by rw [List.getElem_set_self (by simpa using hk)]⟩)
    · rw [List.getElem_set_ne hjk]
      rcases h.at_ k (by simpa using hk) with e | e | ⟨m, hm, e⟩
      · exact .inl e
      · exact .inr (.inl e)
      · exact .inr (.inr ⟨m, by omega, e⟩)
  · have := countP_set (p := fun e => e.name == []) es j hj ⟨agK i, 9⟩
    simp only [hjn, beq_self_eq_true, if_true] at this
    have h3 : (agK i == ([] : List UInt8)) = false := by simp [agK]
    simp only [h3, Bool.false_eq_true, if_false, Nat.add_zero] at this
    exact this
theorem rawN_frees (es : List Ent) : (rawN es).length + frees es = es.length := by
  unfold rawN frees
  induction es with
  | nil => rfl
  | cons e r ih =>
    simp only [List.map_cons, List.filter_cons, List.countP_cons, List.length_cons]
    cases h : (e.name == ([] : List UInt8)) <;> simp only [Bool.not_false, Bool.not_true, if_true, Bool.false_eq_true, if_false, List.length_cons] <;> omega
theorem frees_le (es : List Ent) : frees es ≤ es.length := List.countP_le_length
end Go.Proofs.Ytoloogpglnonaaa
