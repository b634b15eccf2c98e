/- CachePins: plain. -/
import Derived.Test.YtfapehgjiglflaaCow
namespace Go.Proofs.Ytfapehgjiglflaa
open Go.RowKit
/-- The blocks of P are pinned, at most B times each; others lie behind 31. -/
structure PInv (size : Nat) (B : Int) (c : Ck) (P : List Nat) : Prop where
  sz : c.size = (size : Int)
  nd : (c.l.map (·.n)).Nodup
  pn : P.Nodup
  len : c.l.length ≤ size
  pin : ∀ h ∈ c.l, h.n ∈ P → 1 ≤ h.pins ∧ h.pins ≤ B
  un : ∀ h ∈ c.l, h.n ∉ P → h.pins = 0
  un32 : ∀ h ∈ c.l, h.n ∉ P → 32 ≤ h.n
  mem : ∀ p ∈ P, p ∈ c.l.map (·.n)
  lo : ∀ h ∈ c.l, h.n < 40
  plo : ∀ p ∈ P, p < 32
  cl : ∀ h ∈ c.l, h.dirty = false
  b512 : ∀ h ∈ c.l, h.b.length = 512
theorem PInv.ok {size : Nat} {B : Int} {c : Ck} {P : List Nat} (h : PInv size B c P) : Cok 40 c (dN 40) := ⟨dN_ok, h.b512⟩
theorem PInv.mono {size : Nat} {B B' : Int} {c : Ck} {P : List Nat} (h : PInv size B c P) (hb : B ≤ B') : PInv size B' c P :=
  ⟨h.sz, h.nd, h.pn, h.len, fun x hx hp => ⟨(h.pin x hx hp).1, Int.le_trans (h.pin x hx hp).2 hb⟩, h.un, h.un32, h.mem, h.lo, h.plo, h.cl, h.b512⟩
theorem sub_len {P l : List Nat} (hp : P.Nodup) (h : ∀ p ∈ P, p ∈ l) : P.length ≤ l.length := by
  induction P generalizing l with
  | nil => exact Nat.zero_le _
  | cons a P ih =>
    obtain ⟨u, v, rfl⟩ := List.append_of_mem (h a (by simp))
    have hn := List.nodup_cons.1 hp
    have := ih (l := u ++ v) hn.2 (fun p hpp => by
      have h1 := h p (List.mem_cons_of_mem _ hpp)
      rcases List.mem_append.1 h1 with h2 | h2
      · exact List.mem_append.2 (.inl h2)
      · rcases List.mem_cons.1 h2 with rfl | h2
        · exact absurd hpp hn.1
        · exact List.mem_append.2 (.inr h2))
    simp only [List.length_append, List.length_cons] at this ⊢
    omega
theorem PInv.ple {size : Nat} {B : Int} {c : Ck} {P : List Nat} (h : PInv size B c P) : P.length ≤ c.l.length := by
  have := sub_len h.pn h.mem
  rwa [List.length_map] at this
theorem getP_eq (c : Ck) {N n : Nat} (hn : n < N) : getP c (dN N) N n = match c.l.find? (fun h => h.n == n) with
      | some h => (0, hitC c (h :: delL c.l n), dN N)
      | none => if (c.l.length : Int) < c.size then (0, missC c (⟨n, lastP (dN N) n, false, 0⟩ :: c.l), dN N) else match vicL c.l with
        | none => (13, c, dN N)
        | some x => holdP c (dN N) ⟨n, lastP (dN N) n, false, 0⟩ (some x) := by
  unfold getP
  rw [if_neg (by omega)]
  rfl
theorem delL_at {l : List Hd} {x : Hd} (hn : (l.map (·.n)).Nodup) (hx : x ∈ l) : l.Perm (x :: delL l x.n) := by
  obtain ⟨u, v, rfl⟩ := List.append_of_mem hx
  have h1 : ∀ (r : List Hd), x.n ∉ r.map (·.n) → r.filter (fun h => h.n != x.n) = r := fun r hr => by
    rw [List.filter_eq_self]
    intro a ha
    simp only [bne_iff_ne]
    exact fun e => hr (List.mem_map.2 ⟨a, ha, e⟩)
  rw [List.map_append, List.map_cons] at hn
  have h7 := List.nodup_append.1 hn
  have e : delL (u ++ x :: v) x.n = u ++ v := by
    unfold delL
    rw [List.filter_append, List.filter_cons, if_neg (by simp), h1 u (fun hm => h7.2.2 _ hm _ (by simp) rfl), h1 v (List.nodup_cons.1 h7.2.1).1]
  rw [e]
  exact List.perm_middle
/-- The same blocks in another order. -/
theorem PInv.perm {size : Nat} {B : Int} {c c' : Ck} {P : List Nat} (h : PInv size B c P) (hp : c.l.Perm c'.l) (hs : c'.size = c.size) : PInv size B c' P :=
  ⟨hs.trans h.sz, (hp.map (·.n)).nodup h.nd, h.pn, by rw [← hp.length_eq]; exact h.len, fun x hx => h.pin x (hp.mem_iff.2 hx), fun x hx => h.un x (hp.mem_iff.2 hx), fun x hx => h.un32 x (hp.mem_iff.2 hx), fun p hpp => (hp.map (·.n)).mem_iff.1 (h.mem p hpp), fun x hx => h.lo x (hp.mem_iff.2 hx), h.plo, fun x hx => h.cl x (hp.mem_iff.2 hx), fun x hx => h.b512 x (hp.mem_iff.2 hx)⟩
/-- A Get of a block behind 31. -/
theorem PInv.get {size : Nat} {B : Int} {c : Ck} {P : List Nat} (h : PInv size B c P) {n : Nat} (h1 : 32 ≤ n) (h2 : n < 40) :
    (((getP c (dN 40) 40 n).1 == 0) = decide (P.length < size)) ∧ (getP c (dN 40) 40 n).2.2 = dN 40 ∧ PInv size B (getP c (dN 40) 40 n).2.1 P := by
  rw [getP_eq c h2]
  have hnP : n ∉ P := fun hm => by have := h.plo n hm; omega
  have hple := h.ple
  have hlen := h.len
  cases hf : c.l.find? (fun h => h.n == n) with
  | some x =>
    obtain ⟨hxm, hxn⟩ := find_mem hf
    have hp := delL_at h.nd hxm
    rw [hxn] at hp
    have hlt : P.length < size := by
      have : (n :: P).length ≤ (c.l.map (·.n)).length := sub_len (List.nodup_cons.2 ⟨hnP, h.pn⟩) (fun p hpp => by
        rcases List.mem_cons.1 hpp with rfl | hpp
        · exact List.mem_map.2 ⟨x, hxm, hxn⟩
        · exact h.mem p hpp)
      rw [List.length_map, List.length_cons] at this
      omega
    refine ⟨by rw [decide_eq_true hlt]; rfl, rfl, h.perm hp rfl⟩
  | none =>
    have hnm := find_none hf
    show (((if (c.l.length : Int) < c.size then (0, missC c (⟨n, lastP (dN 40) n, false, 0⟩ :: c.l), dN 40) else match vicL c.l with
        | none => (13, c, dN 40)
        | some x => holdP c (dN 40) ⟨n, lastP (dN 40) n, false, 0⟩ (some x) : Int × Ck × Dk).1 == 0) = _) ∧ _
    by_cases hlt : c.l.length < size
    · rw [if_pos (by rw [h.sz]; omega)]
      refine ⟨by rw [decide_eq_true (show P.length < size by omega)]; rfl, rfl, ⟨h.sz, ?_, h.pn, by show c.l.length + 1 ≤ size; omega, ?_, ?_, ?_, fun p hpp => List.mem_cons_of_mem _ (h.mem p hpp), ?_, h.plo, ?_, ?_⟩⟩
      · exact List.nodup_cons.2 ⟨hnm, h.nd⟩
      · intro x hx hp
        rcases List.mem_cons.1 hx with rfl | hx
        · exact absurd hp hnP
        · exact h.pin x hx hp
      · intro x hx hp
        rcases List.mem_cons.1 hx with rfl | hx
        · rfl
        · exact h.un x hx hp
      · intro x hx hp
        rcases List.mem_cons.1 hx with rfl | hx
        · exact h1
        · exact h.un32 x hx hp
      · intro x hx
        rcases List.mem_cons.1 hx with rfl | hx
        · exact h2
        · exact h.lo x hx
      · intro x hx
        rcases List.mem_cons.1 hx with rfl | hx
        · rfl
        · exact h.cl x hx
      · intro x hx
        rcases List.mem_cons.1 hx with rfl | hx
        · exact dN_last h2
        · exact h.b512 x hx
    · rw [if_neg (by rw [h.sz]; omega)]
      cases hv : vicL c.l with
      | none =>
        have hall : ∀ x ∈ c.l, x.n ∈ P := fun x hx => by
          rcases Decidable.em (x.n ∈ P) with e | e
          · exact e
          · exfalso
            have h0 := h.un x hx e
            unfold vicL at hv
            have := List.find?_eq_none.1 hv x (List.mem_reverse.2 hx)
            simp [h0] at this
        have hle : c.l.length ≤ P.length := by
          have := sub_len h.nd (l := P) (fun p hpp => by
            obtain ⟨x, hx, rfl⟩ := List.mem_map.1 hpp
            exact hall x hx)
          rwa [List.length_map] at this
        refine ⟨by rw [decide_eq_false (show ¬ P.length < size by omega)]; rfl, rfl, h⟩
      | some x =>
        have hx0 : x.pins = 0 ∧ x ∈ c.l := by
          unfold vicL at hv
          have h3 := List.find?_some hv
          exact ⟨by simpa using h3, List.mem_reverse.1 (List.mem_of_find?_eq_some hv)⟩
        have hxP : x.n ∉ P := fun hm => by have := (h.pin x hx0.2 hm).1; omega
        have hp := delL_at h.nd hx0.2
        have hP : holdP c (dN 40) ⟨n, lastP (dN 40) n, false, 0⟩ (some x) = (0, missC (evC c (delL c.l x.n)) (⟨n, lastP (dN 40) n, false, 0⟩ :: delL c.l x.n), dN 40) := by
          show (if x.dirty = true then _ else _) = _
          rw [if_neg (by simp [h.cl x hx0.2])]
        show ((((holdP c (dN 40) ⟨n, lastP (dN 40) n, false, 0⟩ (some x)).1 : Int) == 0) = _) ∧ (holdP c (dN 40) ⟨n, lastP (dN 40) n, false, 0⟩ (some x)).2.2 = _ ∧ PInv size B (holdP c (dN 40) ⟨n, lastP (dN 40) n, false, 0⟩ (some x)).2.1 P
        rw [hP]
        have hlt2 : P.length < size := by
          have : (x.n :: P).length ≤ (c.l.map (·.n)).length := sub_len (List.nodup_cons.2 ⟨hxP, h.pn⟩) (fun p hpp => by
            rcases List.mem_cons.1 hpp with rfl | hpp
            · exact List.mem_map.2 ⟨x, hx0.2, rfl⟩
            · exact h.mem p hpp)
          rw [List.length_map, List.length_cons] at this
          omega
        have hdm : ∀ y ∈ delL c.l x.n, y ∈ c.l := fun y hy => delL_sub hy
        have hdl : (delL c.l x.n).length + 1 = c.l.length := by rw [hp.length_eq]; rfl
        have hdn : ((delL c.l x.n).map (·.n)).Nodup := (List.nodup_cons.1 ((hp.map (·.n)).nodup h.nd)).2
        refine ⟨by rw [decide_eq_true hlt2]; rfl, rfl, ⟨h.sz, ?_, h.pn, by show (delL c.l x.n).length + 1 ≤ size; omega, ?_, ?_, ?_, ?_, ?_, h.plo, ?_, ?_⟩⟩
        · refine List.nodup_cons.2 ⟨fun hm => ?_, hdn⟩
          obtain ⟨y, hy, e⟩ := List.mem_map.1 hm
          exact hnm (List.mem_map.2 ⟨y, hdm y hy, e⟩)
        · intro y hy hp
          rcases List.mem_cons.1 hy with rfl | hy
          · exact absurd hp hnP
          · exact h.pin y (hdm y hy) hp
        · intro y hy hp
          rcases List.mem_cons.1 hy with rfl | hy
          · rfl
          · exact h.un y (hdm y hy) hp
        · intro y hy hp
          rcases List.mem_cons.1 hy with rfl | hy
          · exact h1
          · exact h.un32 y (hdm y hy) hp
        · intro p hpp
          have h3 := (hp.map (·.n)).mem_iff.1 (h.mem p hpp)
          rw [List.map_cons, List.mem_cons] at h3
          refine List.mem_cons_of_mem _ (h3.resolve_left (fun e => hxP (e ▸ hpp)))
        · intro y hy
          rcases List.mem_cons.1 hy with rfl | hy
          · exact h2
          · exact h.lo y (hdm y hy)
        · intro y hy
          rcases List.mem_cons.1 hy with rfl | hy
          · rfl
          · exact h.cl y (hdm y hy)
        · intro y hy
          rcases List.mem_cons.1 hy with rfl | hy
          · exact dN_last h2
          · exact h.b512 y (hdm y hy)
/-- Pinning the block in front. -/
theorem PInv.pinC {size : Nat} {B : Int} {c : Ck} {P : List Nat} {x : Hd} {r : List Hd} (hB : B ≤ 900) (h : PInv size B c P) (hl : c.l = x :: r) (hx : x.n ∈ P) : PInv size (B + 1) (Go.Proofs.Ytfapehgjiglflaa.pinC c) P := by
  have hx1 := h.pin x (by rw [hl]; simp) hx
  have e : Go.Proofs.Ytfapehgjiglflaa.pinC c = ⟨c.size, ⟨x.n, x.b, x.dirty, winc x.pins⟩ :: r, c.hits, c.misses, c.evs⟩ := by unfold Go.Proofs.Ytfapehgjiglflaa.pinC; rw [hl]
  rw [e]
  have hn : (⟨x.n, x.b, x.dirty, winc x.pins⟩ :: r : List Hd).map (·.n) = c.l.map (·.n) := by rw [hl]; rfl
  refine ⟨h.sz, by show List.Nodup (List.map _ _); rw [hn]; exact h.nd, h.pn, by have := h.len; rw [hl] at this; exact this, ?_, ?_, ?_, fun p hpp => by show _ ∈ List.map _ _; rw [hn]; exact h.mem p hpp, ?_, h.plo, ?_, ?_⟩
  · intro y hy hp
    rcases List.mem_cons.1 hy with rfl | hy
    · show 1 ≤ winc x.pins ∧ winc x.pins ≤ B + 1
      rw [winc_small (by omega) (by omega)]
      omega
    · have := h.pin y (by rw [hl]; exact List.mem_cons_of_mem _ hy) hp
      omega
  · intro y hy hp
    rcases List.mem_cons.1 hy with rfl | hy
    · exact absurd hx hp
    · exact h.un y (by rw [hl]; exact List.mem_cons_of_mem _ hy) hp
  · intro y hy hp
    rcases List.mem_cons.1 hy with rfl | hy
    · exact absurd hx hp
    · exact h.un32 y (by rw [hl]; exact List.mem_cons_of_mem _ hy) hp
  · intro y hy
    rcases List.mem_cons.1 hy with rfl | hy
    · exact h.lo x (by rw [hl]; simp)
    · exact h.lo y (by rw [hl]; exact List.mem_cons_of_mem _ hy)
  · intro y hy
    rcases List.mem_cons.1 hy with rfl | hy
    · exact h.cl x (by rw [hl]; simp)
    · exact h.cl y (by rw [hl]; exact List.mem_cons_of_mem _ hy)
  · intro y hy
    rcases List.mem_cons.1 hy with rfl | hy
    · exact h.b512 x (by rw [hl]; simp)
    · exact h.b512 y (by rw [hl]; exact List.mem_cons_of_mem _ hy)
/-- A Pin of a block below 32, as long as all that is held is pinned. -/
theorem PInv.pinN {size : Nat} {B : Int} {c : Ck} {P : List Nat} (h : PInv size B c P) (hB : 0 ≤ B ∧ B ≤ 900) (hall : ∀ x ∈ c.l, x.n ∈ P) {n : Nat} (h1 : n < 32) :
    (pinP c (dN 40) 40 n).2.2 = dN 40 ∧ (n ∈ P → (pinP c (dN 40) 40 n).1 = 0 ∧ PInv size (B + 1) (pinP c (dN 40) 40 n).2.1 P ∧ ∀ x ∈ (pinP c (dN 40) 40 n).2.1.l, x.n ∈ P) ∧
      (n ∉ P → P.length < size → (pinP c (dN 40) 40 n).1 = 0 ∧ PInv size (B + 1) (pinP c (dN 40) 40 n).2.1 (n :: P) ∧ ∀ x ∈ (pinP c (dN 40) 40 n).2.1.l, x.n ∈ n :: P) ∧
      (n ∉ P → ¬ P.length < size → (pinP c (dN 40) 40 n).1 = 13 ∧ (pinP c (dN 40) 40 n).2.1 = c) := by
  have hG := getP_eq c (N := 40) (n := n) (by omega)
  have hpl : c.l.length = P.length := by
    have h2 := h.ple
    have h3 := sub_len h.nd (l := P) (fun p hpp => by
      obtain ⟨x, hx, rfl⟩ := List.mem_map.1 hpp
      exact hall x hx)
    rw [List.length_map] at h3
    omega
  have hlen := h.len
  unfold pinP
  cases hf : c.l.find? (fun h => h.n == n) with
  | some x =>
    obtain ⟨hxm, hxn⟩ := find_mem hf
    have hp := delL_at h.nd hxm
    rw [hxn] at hp
    rw [hf] at hG
    have hG : getP c (dN 40) 40 n = (0, hitC c (x :: delL c.l n), dN 40) := hG
    rw [hG, if_pos rfl]
    have hnP : n ∈ P := hxn ▸ hall x hxm
    have h2 : PInv size B (hitC c (x :: delL c.l n)) P := h.perm hp rfl
    refine ⟨rfl, fun _ => ⟨rfl, h2.pinC hB.2 rfl (hall x hxm), ?_⟩, fun hn => absurd hnP hn, fun hn => absurd hnP hn⟩
    intro y hy
    have hy : y ∈ (⟨x.n, x.b, x.dirty, winc x.pins⟩ :: delL c.l n : List Hd) := hy
    rcases List.mem_cons.1 hy with rfl | hy
    · exact hall x hxm
    · exact hall y (delL_sub hy)
  | none =>
    have hnm := find_none hf
    have hnP : n ∉ P := fun hm => hnm (h.mem n hm)
    rw [hf] at hG
    have hG : getP c (dN 40) 40 n = if (c.l.length : Int) < c.size then (0, missC c (⟨n, lastP (dN 40) n, false, 0⟩ :: c.l), dN 40) else match vicL c.l with
        | none => (13, c, dN 40)
        | some x => holdP c (dN 40) ⟨n, lastP (dN 40) n, false, 0⟩ (some x) := hG
    by_cases hlt : c.l.length < size
    · rw [if_pos (by rw [h.sz]; omega)] at hG
      rw [hG, if_pos rfl]
      refine ⟨rfl, fun hn => absurd hn hnP, fun _ _ => ⟨rfl, ⟨h.sz, ?_, List.nodup_cons.2 ⟨hnP, h.pn⟩, by show c.l.length + 1 ≤ size; omega, ?_, ?_, ?_, ?_, ?_, ?_, ?_, ?_⟩, ?_⟩, fun _ hn => absurd (by omega) hn⟩
      · exact List.nodup_cons.2 ⟨hnm, h.nd⟩
      · intro y hy hp
        have hy : y ∈ (⟨n, lastP (dN 40) n, false, winc 0⟩ :: c.l : List Hd) := hy
        rcases List.mem_cons.1 hy with rfl | hy
        · show 1 ≤ winc 0 ∧ winc 0 ≤ B + 1
          rw [winc_small (by omega) (by omega)]
          omega
        · have := h.pin y hy (hall y hy)
          omega
      · intro y hy hp
        have hy : y ∈ (⟨n, lastP (dN 40) n, false, winc 0⟩ :: c.l : List Hd) := hy
        rcases List.mem_cons.1 hy with rfl | hy
        · exact absurd (List.mem_cons_self) hp
        · exact absurd (List.mem_cons_of_mem _ (hall y hy)) hp
      · intro y hy hp
        have hy : y ∈ (⟨n, lastP (dN 40) n, false, winc 0⟩ :: c.l : List Hd) := hy
        rcases List.mem_cons.1 hy with rfl | hy
        · exact absurd (List.mem_cons_self) hp
        · exact absurd (List.mem_cons_of_mem _ (hall y hy)) hp
      · intro p hpp
        show p ∈ (⟨n, lastP (dN 40) n, false, winc 0⟩ :: c.l : List Hd).map (·.n)
        rw [List.map_cons]
        rcases List.mem_cons.1 hpp with rfl | hpp
        · exact List.mem_cons_self
        · exact List.mem_cons_of_mem _ (h.mem p hpp)
      · intro y hy
        have hy : y ∈ (⟨n, lastP (dN 40) n, false, winc 0⟩ :: c.l : List Hd) := hy
        rcases List.mem_cons.1 hy with rfl | hy
        · show n < 40; omega
        · exact h.lo y hy
      · intro p hpp
        rcases List.mem_cons.1 hpp with rfl | hpp
        · exact h1
        · exact h.plo p hpp
      · intro y hy
        have hy : y ∈ (⟨n, lastP (dN 40) n, false, winc 0⟩ :: c.l : List Hd) := hy
        rcases List.mem_cons.1 hy with rfl | hy
        · rfl
        · exact h.cl y hy
      · intro y hy
        have hy : y ∈ (⟨n, lastP (dN 40) n, false, winc 0⟩ :: c.l : List Hd) := hy
        rcases List.mem_cons.1 hy with rfl | hy
        · exact dN_last (by omega)
        · exact h.b512 y hy
      · intro y hy
        have hy : y ∈ (⟨n, lastP (dN 40) n, false, winc 0⟩ :: c.l : List Hd) := hy
        rcases List.mem_cons.1 hy with rfl | hy
        · exact List.mem_cons_self
        · exact List.mem_cons_of_mem _ (hall y hy)
    · rw [if_neg (by rw [h.sz]; omega)] at hG
      have hv : vicL c.l = none := by
        unfold vicL
        rw [List.find?_eq_none]
        intro y hy
        have := (h.pin y (List.mem_reverse.1 hy) (hall y (List.mem_reverse.1 hy))).1
        simp
        omega
      rw [hv] at hG
      have hG : getP c (dN 40) 40 n = (13, c, dN 40) := hG
      rw [hG, if_neg (by show ¬ (13 : Int) = 0; omega)]
      exact ⟨rfl, fun hn => absurd hn hnP, fun _ hn => absurd hn (by omega), fun _ _ => ⟨rfl, rfl⟩⟩
/-- How many of what is held are pinned. -/
theorem PInv.count {size : Nat} {B : Int} {c : Ck} {P : List Nat} (h : PInv size B c P) : ((heldL c 40).filter fun n => decide (n ∈ P)).length = P.length := by
  have hw : ((heldL c 40).filter fun n => decide (n ∈ P)).Nodup := List.Pairwise.filter _ (List.Pairwise.filter _ List.nodup_range)
  refine ((List.perm_ext_iff_of_nodup hw h.pn).2 (fun a => ?_)).length_eq
  rw [List.mem_filter, decide_eq_true_eq]
  constructor
  · exact fun h => h.2
  · intro ha
    refine ⟨?_, ha⟩
    unfold heldL
    rw [mem_which]
    obtain ⟨y, hy, e⟩ := List.mem_map.1 (h.mem a ha)
    exact ⟨by have := h.plo a ha; omega, y, hy, e, rfl⟩
end Go.Proofs.Ytfapehgjiglflaa
