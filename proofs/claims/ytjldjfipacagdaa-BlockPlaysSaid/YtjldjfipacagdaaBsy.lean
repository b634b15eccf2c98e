/- Plain laws of BlockSynced. -/
import Derived.Test.YtjldjfipacagdaaBdo
namespace Go.Proofs.Ytjldjfipacagdaa
open Go.RowKit
/-- Power is on, nothing armed. -/
structure Sy (N B : Nat) (d : Dk) : Prop where
  ok : Dok N B d
  off : d.off = false
  arm : d.arm = 0
theorem Sy.write {N B : Nat} {d : Dk} (h : Sy N B d) (n : Int) (b : List UInt8) (hb : b.length = 512) :
    Sy N (B + 1) (writeP d n b).2 ∧ ((writeP d n b).2 = d ∨ ∃ k : Nat, n = k ∧ k < N ∧ (writeP d n b).2 = addD d k b) := by
  have hok := h.ok.write n b
  by_cases h0 : askP d n = 0
  · obtain ⟨k, rfl, hk, _⟩ := askP_ok h0
    have e := writeP_ok h0 hb (by rw [h.arm]; decide)
    rw [Int.toNat_natCast] at e
    rw [e] at hok ⊢
    exact ⟨⟨hok, h.off, h.arm⟩, .inr ⟨k, rfl, by rw [← h.ok.ll]; exact hk, rfl⟩⟩
  · have e : writeP d n b = (askP d n, d) := by unfold writeP; rw [if_pos h0]
    rw [e] at hok ⊢
    exact ⟨⟨hok, h.off, h.arm⟩, .inl rfl⟩
theorem Sy.sync {N B : Nat} {d : Dk} (h : Sy N B d) : Sy N 0 (syncD d) := ⟨⟨h.ok.sync.ll, h.ok.sync.wl, by unfold syncD; rw [waitP_zero]; exact Nat.zero_le _, h.ok.ar, h.ok.pk⟩, h.off, h.arm⟩
/-- What was not written since has no version that waits. -/
structure Sw (L : List (List UInt8)) (wro : List Bool) (B : Nat) (d : Dk) : Prop where
  sy : Sy 8 B d
  l : d.l = L
  wl : wro.length = 8
  no : ∀ n, n < 8 → wro.getD n false = false → d.wt.getD n [] = []
theorem getD_set_of {α : Type} (l : List α) (k n : Nat) (x z : α) : (l.set k x).getD n z = if k = n ∧ k < l.length then x else l.getD n z := by
  rw [List.getD_eq_getElem?_getD, List.getElem?_set, List.getD_eq_getElem?_getD]
  by_cases h : k = n
  · subst h
    by_cases h2 : k < l.length
    · simp [h2]
    · simp [h2, List.getElem?_eq_none (Nat.not_lt.1 h2)]
  · simp [h]
theorem Sw.write {L : List (List UInt8)} {wro : List Bool} {B : Nat} {d : Dk} (h : Sw L wro B d) (k : Nat) (hk : k < 8) (b : List UInt8) (hb : b.length = 512) : Sw L (wro.set k true) (B + 1) (writeP d (k : Int) b).2 := by
  obtain ⟨h1, h2⟩ := h.sy.write (k : Int) b hb
  have hw : (wro.set k true).length = 8 := by rw [List.length_set]; exact h.wl
  rcases h2 with e | ⟨j, hj, hj2, e⟩
  · rw [e] at h1 ⊢
    refine ⟨h1, h.l, hw, fun n hn hf => ?_⟩
    rw [getD_set_of] at hf
    split at hf
    · cases hf
    · exact h.no n hn hf
  · have hjk : j = k := by omega
    subst hjk
    rw [e] at h1 ⊢
    refine ⟨h1, h.l, hw, fun n hn hf => ?_⟩
    rw [getD_set_of] at hf
    split at hf
    · cases hf
    · rename_i hne
      show (d.wt.set j _).getD n [] = []
      rw [getD_set_of, if_neg]
      · exact h.no n hn hf
      · rintro ⟨rfl, _⟩
        exact hne ⟨rfl, by rw [h.wl]; exact hk⟩
theorem sync_wt (d : Dk) (n : Nat) : (syncD d).wt.getD n [] = [] := by
  unfold syncD
  rw [List.getD_eq_getElem?_getD, List.getElem?_replicate]
  split <;> rfl
theorem Sw.start {d : Dk} {B : Nat} (h : Sy 8 B d) : Sw (syncD d).l (List.replicate 8 false) 0 (syncD d) := ⟨h.sync, rfl, rfl, fun n _ _ => sync_wt d n⟩
theorem lastP_nil {d : Dk} {n : Nat} (h : d.wt.getD n [] = []) : lastP d n = d.l.getD n [] := by
  unfold lastP
  rw [h]
  rfl
theorem cut_wt (d : Dk) (p : List Int) (n : Nat) : (cutD d p).wt.getD n [] = [] := by
  unfold cutD
  rw [List.getD_eq_getElem?_getD, List.getElem?_replicate]
  split <;> rfl
theorem Sw.piece {L : List (List UInt8)} {wro : List Bool} {B : Nat} {d : Dk} (h : Sw L wro B d) (p : List Int) {n : Nat} (hn : n < 8) (hf : wro.getD n false = false) : lastP (onD (cutD d p)) n = L.getD n [] := by
  have e : lastP (onD (cutD d p)) n = (cutD d p).l.getD n [] := lastP_nil (show (cutD d p).wt.getD n [] = [] from cut_wt d p n)
  rw [e]
  unfold cutD
  rw [List.getD_eq_getElem?_getD, List.getElem?_map, List.getElem?_range (by rw [h.sy.ok.ll]; exact hn)]
  show cutB d p n = _
  unfold cutB
  rw [h.no n hn hf, pickB_nil, h.l]
theorem img_take {d : Dk} (hl : ∀ n, n < d.l.length → (lastP d n).length = 512) : ∀ N k, k ≤ N → N ≤ d.l.length → (imgK d N).take (k * 512) = imgK d k
  | 0, k, hk, _ => by
    have : k = 0 := by omega
    subst this
    rfl
  | N + 1, k, hk, hN => by
    rcases Nat.lt_or_ge k (N + 1) with h | h
    · rw [imgK_succ, List.take_append_of_le_length]
      · exact img_take hl N k (by omega) (by omega)
      · have : (imgK d N).length = N * 512 := by
          clear h hk
          induction N with
          | zero => rfl
          | succ N ih => rw [imgK_succ, List.length_append, ih (by omega), hl N (by omega)]; omega
        rw [this]
        omega
    · have : k = N + 1 := by omega
      subst this
      have hlen : ∀ M, M ≤ d.l.length → (imgK d M).length = M * 512 := by
        intro M hM
        induction M with
        | zero => rfl
        | succ M ih => rw [imgK_succ, List.length_append, ih (by omega), hl M (by omega)]; omega
      rw [List.take_of_length_le (by rw [hlen _ hN]; exact Nat.le_refl _)]
theorem img_piece {d : Dk} (hl : ∀ n, n < d.l.length → (lastP d n).length = 512) {k : Nat} (hk : k < d.l.length) : ((imgP d).drop (k * 512)).take 512 = lastP d k := by
  have h1 := img_take hl d.l.length (k + 1) (by omega) (Nat.le_refl _)
  have h2 := img_take hl d.l.length k (by omega) (Nat.le_refl _)
  have hlen : (imgK d k).length = k * 512 := by
    clear h1 h2
    have : ∀ M, M ≤ d.l.length → (imgK d M).length = M * 512 := by
      intro M hM
      induction M with
      | zero => rfl
      | succ M ih => rw [imgK_succ, List.length_append, ih (by omega), hl M (by omega)]; omega
    exact this k (by omega)
  rw [imgK_succ] at h1
  show ((imgK d d.l.length).drop (k * 512)).take 512 = _
  have h3 : ((imgK d d.l.length).take ((k + 1) * 512)).drop (k * 512) = lastP d k := by
    rw [h1, ← hlen, List.drop_left]
  rw [← h3, List.drop_take, show (k + 1) * 512 - k * 512 = 512 by omega]
theorem rd_mid {w : World} {ad : Addr} {n c k m : Nat} {bs : List UInt8} (h : Rd w (.slice (some ad) n c) (bvs bs)) (hk : k + m ≤ bs.length) : Rd w (.slice (some (ad.add k)) m (c - k)) (bvs ((bs.drop k).take m)) := by
  obtain ⟨A', c', e, hl, hr⟩ := h
  injection e with e1 e2 e3
  subst e3
  rw [bvs_length] at hl
  refine ⟨_, _, by rw [bvs_length, List.length_take, List.length_drop, Nat.min_eq_left (by omega)], by rw [bvs_length, List.length_take, List.length_drop]; omega, fun hne => ⟨_, rfl, fun j u hu => ?_⟩⟩
  have hne2 : bvs bs ≠ [] := by
    intro e
    apply hne
    have : bs = [] := by cases bs with | nil => rfl | cons a r => cases e
    subst this
    rw [List.drop_nil, List.take_nil]
    rfl
  obtain ⟨ad', e, hc⟩ := hr hne2
  rw [← e1] at e
  injection e with e
  subst e
  rw [addr_add_add]
  refine hc (k + j) u ?_
  rw [bvs, List.getElem?_map, List.getElem?_take] at hu
  split at hu
  · rw [bvs, List.getElem?_map]
    rw [List.getElem?_drop] at hu
    exact hu
  · cases hu
end Go.Proofs.Ytjldjfipacagdaa
