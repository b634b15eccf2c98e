/- Plain laws on directories: names by their number, put, moved there and back. -/
import Derived.Test.YtoloogpglnonaaaDk
namespace Go.Proofs.Ytoloogpglnonaaa
open Go.RowKit
theorem nameK_ok : ∀ i, i < 64 → nameP (nameK i) = true := by decide +kernel
theorem nameK_inj : ∀ i, i < 64 → ∀ j, j < 64 → nameK i = nameK j → i = j := by decide +kernel
theorem nameK_ne (i : Nat) : nameK i ≠ [] := by simp [nameK]
theorem nameK_len (i : Nat) : (nameK i).length = 3 := rfl
def genE (n : Nat) : List Ent := (List.range n).map fun j => ⟨nameK j, (j : Int) + 1⟩
theorem genE_len (n : Nat) : (genE n).length = n := by simp [genE]
theorem genE_get (n i : Nat) (h : i < (genE n).length) : (genE n)[i] = ⟨nameK i, (i : Int) + 1⟩ := by simp [genE]
theorem genE_succ (n : Nat) : genE (n + 1) = genE n ++ [⟨nameK n, (n : Int) + 1⟩] := by
  unfold genE
  rw [List.range_succ, List.map_append]
  rfl
theorem genE_short (n : Nat) : ∀ e ∈ genE n, e.name.length ≤ 1000000 := by
  intro e he
  simp [genE] at he
  obtain ⟨j, _, rfl⟩ := he
  simp [nameK]
theorem atP_hit (es : List Ent) (name : List UInt8) (j : Nat) (hj : j < es.length) (hn : name ≠ []) (h : es[j].name = name) (h0 : ∀ i (hi : i < es.length), i < j → es[i].name ≠ name) : atP es name = j := by
  unfold atP
  rw [if_neg hn]
  exact findI_hit _ es j hj (fun i hi hij => by simpa using h0 i hi hij) (by simpa using h)
theorem atP_miss (es : List Ent) (name : List UInt8) (h0 : ∀ i (hi : i < es.length), es[i].name ≠ name) : atP es name = -1 := by
  unfold atP
  by_cases hn : name = []
  · rw [if_pos hn]
  · rw [if_neg hn]
    exact findI_none _ es (fun i hi => by simpa using h0 i hi)
theorem atP_neg (es : List Ent) (name : List UInt8) (hn : name ≠ []) (h : atP es name < 0) : ∀ i (hi : i < es.length), es[i].name ≠ name := by
  unfold atP at h
  rw [if_neg hn] at h
  intro i
  induction i using Nat.strongRecOn with
  | ind i ih =>
    intro hi e
    have := findI_hit (fun e => e.name == name) es i hi (fun k hk hki => by simpa using ih k hki hk) (by simpa using e)
    omega
theorem nameP_ne {s : List UInt8} (h : nameP s = true) : s ≠ [] := by
  rintro rfl
  cases h
theorem genE_at (N K : Nat) (hN : N ≤ 64) (hK : K < N) : atP (genE N) (nameK K) = K := by
  refine atP_hit _ _ K (by rw [genE_len]; exact hK) (nameK_ne K) (by rw [genE_get]) (fun i hi hiK e => ?_)
  rw [genE_get] at e
  have := nameK_inj i (by omega) K (by omega) e
  omega
theorem genE_new (N : Nat) (hN : N < 64) : atP (genE N) (nameK N) = -1 := by
  refine atP_miss _ _ (fun i hi e => ?_)
  rw [genE_get] at e
  rw [genE_len] at hi
  have := nameK_inj i (by omega) N (by omega) e
  omega
theorem genE_full (N : Nat) : freeI (genE N) = -1 := by
  unfold freeI
  refine findI_none _ _ (fun i hi => ?_)
  rw [genE_get]
  rfl
theorem put_gen (i : Nat) (h : i < 64) : putP (genE i) (nameK i) ((i : Int) + 1) = (genE (i + 1), (dblocks (i + 1) : Int) - (dblocks i : Int), 0) := by
  unfold putP
  rw [nameK_ok i h, if_neg (by decide), if_neg (by simp; omega), genE_new i h, if_neg (by decide)]
  have e : putL (genE i) ⟨nameK i, (i : Int) + 1⟩ = genE (i + 1) := by
    unfold putL
    rw [genE_full, if_pos (by decide), genE_succ]
  rw [e, genE_len, genE_len]
theorem set_same {α} (l : List α) (i : Nat) (h : i < l.length) : l.set i l[i] = l := List.set_getElem_self h
def MoveLaw (es : List Ent) (K N : Nat) (name2 : List UInt8) : Prop :=
  (nameP name2 = false ∧ moveP es (nameK K) name2 = ([], 12)) ∨
  (nameP name2 = true ∧ (∃ x, findP es name2 = (x, true)) ∧ moveP es (nameK K) name2 = ([], 9)) ∨
  (∃ t x, ∃ no : Bool, moveP es (nameK K) name2 = (t, 0) ∧ findP t name2 = ((K : Int) + 1, true) ∧ moveP t name2 (nameK K) = (es, 0) ∧ findP t (nameK K) = (x, no) ∧ (no = true → name2 = nameK K) ∧ t.length = N)
theorem move_law (N K : Nat) (hN : N ≤ 64) (hK : K < N) (name2 : List UInt8) : MoveLaw (genE N) K N name2 := by
  have hat := genE_at N K hN hK
  have hlen := genE_len N
  have hKl : K < (genE N).length := by omega
  have hg := genE_get N K hKl
  have hino : ((genE N).getD K ⟨[], 0⟩).ino = (K : Int) + 1 := by rw [List.getD_eq_getElem?_getD, List.getElem?_eq_getElem hKl, hg]; rfl
  unfold MoveLaw
  by_cases hn : nameP name2 = false
  · refine .inl ⟨hn, ?_⟩
    unfold moveP
    rw [hat, if_neg (by omega), if_pos hn]
  · have hn : nameP name2 = true := by simpa using hn
    have hne := nameP_ne hn
    by_cases hx : name2 ≠ nameK K ∧ 0 ≤ atP (genE N) name2
    · have hfd : findP (genE N) name2 = (((genE N).getD (atP (genE N) name2).toNat ⟨[], 0⟩).ino, true) := by
        unfold findP
        rw [if_neg (by omega)]
      refine .inr (.inl ⟨hn, ⟨_, hfd⟩, ?_⟩)
      · unfold moveP
        rw [hat, if_neg (by omega), hn, if_neg (by decide), if_pos hx]
    · have hmv : moveP (genE N) (nameK K) name2 = ((genE N).set K ⟨name2, (K : Int) + 1⟩, 0) := by
        unfold moveP
        rw [hat, if_neg (by omega), hn, if_neg (by decide), if_neg hx, Int.toNat_natCast, hino]
      have htl : ((genE N).set K ⟨name2, (K : Int) + 1⟩).length = N := by rw [List.length_set, hlen]
      have hKt : K < ((genE N).set K ⟨name2, (K : Int) + 1⟩).length := by omega
      have htK : ((genE N).set K ⟨name2, (K : Int) + 1⟩)[K] = ⟨name2, (K : Int) + 1⟩ := List.getElem_set_self hKt
      have hto : ∀ i (hi : i < ((genE N).set K ⟨name2, (K : Int) + 1⟩).length), i ≠ K → ((genE N).set K ⟨name2, (K : Int) + 1⟩)[i] = ⟨nameK i, (i : Int) + 1⟩ := by
        intro i hi hne
        rw [List.getElem_set_ne (Ne.symm hne), genE_get]
      have hat2 : atP ((genE N).set K ⟨name2, (K : Int) + 1⟩) name2 = K := by
        refine atP_hit _ _ K hKt hne (by rw [htK]) (fun i hi hiK e => ?_)
        rw [hto i hi (by omega)] at e
        by_cases hs : name2 = nameK K
        · rw [hs] at e
          have := nameK_inj i (by omega) K (by omega) e
          omega
        · have hneg : atP (genE N) name2 < 0 := by
            rcases Int.lt_or_le (atP (genE N) name2) 0 with h | h
            · exact h
            · exact absurd ⟨hs, h⟩ hx
          refine atP_neg _ _ hne hneg i (by omega) ?_
          rw [genE_get]
          exact e
      have hino2 : (((genE N).set K ⟨name2, (K : Int) + 1⟩).getD K ⟨[], 0⟩).ino = (K : Int) + 1 := by
        rw [List.getD_eq_getElem?_getD, List.getElem?_eq_getElem hKt, htK]
        rfl
      have hback : ((genE N).set K ⟨name2, (K : Int) + 1⟩).set K ⟨nameK K, (K : Int) + 1⟩ = genE N := by
        rw [List.set_set, ← hg]
        exact set_same _ _ hKl
      have hother : name2 ≠ nameK K → atP ((genE N).set K ⟨name2, (K : Int) + 1⟩) (nameK K) = -1 := by
        intro hs
        refine atP_miss _ _ (fun i hi e => ?_)
        by_cases hi2 : i = K
        · subst hi2
          rw [htK] at e
          exact hs e
        · rw [hto i hi hi2] at e
          have := nameK_inj i (by omega) K (by omega) e
          omega
      refine .inr (.inr ⟨_, _, _, hmv, ?_, ?_, rfl, ?_, htl⟩)
      · unfold findP
        rw [hat2, if_neg (by omega), Int.toNat_natCast, hino2]
      · unfold moveP
        rw [hat2, if_neg (by omega), nameK_ok K (by omega), if_neg (by decide), if_neg (fun h => by rw [hother (Ne.symm h.1)] at h; omega), Int.toNat_natCast, hino2, hback]
      · intro h
        by_cases hs : name2 = nameK K
        · exact hs
        · have hm : findP ((genE N).set K ⟨name2, (K : Int) + 1⟩) (nameK K) = (0, false) := by
            unfold findP
            rw [hother hs, if_pos (by decide)]
          change (findP ((genE N).set K ⟨name2, (K : Int) + 1⟩) (nameK K)).2 = true at h
          rw [hm] at h
          cases h
end Go.Proofs.Ytoloogpglnonaaa
