/- CacheOrder: plain. -/
import Derived.Test.YtfapehgjiglflaaKk
namespace Go.Proofs.Ytfapehgjiglflaa
open Go.RowKit
def stepU (size : Nat) (us : List Nat) (n : Nat) : List Nat := if size < ((us.filter fun x => x != n) ++ [n]).length then ((us.filter fun x => x != n) ++ [n]).drop 1 else (us.filter fun x => x != n) ++ [n]
theorem winc_small {x : Int} (h0 : 0 ≤ x) (h1 : x ≤ 1000) : winc x = x + 1 := by
  unfold winc wrap64
  omega
theorem delL_num (l : List Hd) (n : Nat) : (delL l n).map (·.n) = (l.map (·.n)).filter fun x => x != n := by
  unfold delL
  rw [List.filter_map]
  rfl
theorem delL_sub {l : List Hd} {n : Nat} {h : Hd} (hh : h ∈ delL l n) : h ∈ l := (List.mem_filter.1 hh).1
theorem find_mem {l : List Hd} {n : Nat} {h : Hd} (hf : l.find? (fun h => h.n == n) = some h) : h ∈ l ∧ h.n = n := ⟨List.mem_of_find?_eq_some hf, by simpa using List.find?_some hf⟩
theorem find_none {l : List Hd} {n : Nat} (hf : l.find? (fun h => h.n == n) = none) : n ∉ l.map (·.n) := fun hm => by
  obtain ⟨h, hh, e⟩ := List.mem_map.1 hm
  have := List.find?_eq_none.1 hf h hh
  simp [e] at this
theorem filter_id {us : List Nat} {n : Nat} (h : n ∉ us) : (us.filter fun x => x != n) = us := by
  rw [List.filter_eq_self]
  intro a ha
  simp only [bne_iff_ne]
  exact fun e => h (e ▸ ha)
/-- What is clean: nothing is pinned, nothing dirty. -/
structure Cln (N : Nat) (size : Nat) (c : Ck) (us : List Nat) : Prop where
  sz : c.size = (size : Int)
  num : c.l.map (·.n) = us.reverse
  nd : us.Nodup
  len : us.length ≤ size
  lo : ∀ u ∈ us, u < N
  cl : ∀ h ∈ c.l, h.pins = 0 ∧ h.dirty = false
  b512 : ∀ h ∈ c.l, h.b.length = 512
structure Cnt (k : Nat) (c : Ck) (us : List Nat) : Prop where
  h0 : 0 ≤ c.hits
  m0 : 0 ≤ c.misses
  sum : c.hits + c.misses = (k : Int)
  evs : c.evs = c.misses - (us.length : Int)
  e0 : 0 ≤ c.evs
def dN (N : Nat) : Dk := newD N
theorem dN_ok {N : Nat} : Dko N (dN N) := ⟨newD_len N, List.length_replicate, by
    have : waitP (newD N) = 0 := by unfold waitP newD; simp [List.map_replicate]
    rw [show waitP (dN N) = 0 from this]; omega, by show (0 : Int) ≤ _; omega, by show (0 : Nat) ≤ _; omega⟩
theorem dN_last {N n : Nat} (h : n < N) : (lastP (dN N) n).length = 512 := by
  have : lastP (dN N) n = zblk := by
    unfold lastP dN newD
    simp only
    rw [List.getD_eq_getElem?_getD, List.getElem?_replicate, if_pos h, List.getD_eq_getElem?_getD, List.getElem?_replicate, if_pos h]
    rfl
  rw [this]
  exact zblk_len
theorem Cln.ok {N size : Nat} {c : Ck} {us : List Nat} (h : Cln N size c us) : Cok N c (dN N) := ⟨dN_ok, h.b512⟩
/-- A Get of a clean cache. -/
theorem Cln.get {N size k n : Nat} {c : Ck} {us : List Nat} (h : Cln N size c us) (hc : Cnt k c us) (hs : 1 ≤ size) (hn : n < N) (hk : k ≤ 900) :
    (getP c (dN N) N n).1 = 0 ∧ (getP c (dN N) N n).2.2 = dN N ∧ Cln N size (getP c (dN N) N n).2.1 (stepU size us n) ∧ Cnt (k + 1) (getP c (dN N) N n).2.1 (stepU size us n) := by
  have hP0 : getP c (dN N) N n = match c.l.find? (fun h => h.n == n) with
      | some h => (0, hitC c (h :: delL c.l n), dN N)
      | none => if (c.l.length : Int) < c.size then holdP c (dN N) ⟨n, lastP (dN N) n, false, 0⟩ none else match vicL c.l with
        | none => (13, c, dN N)
        | some x => holdP c (dN N) ⟨n, lastP (dN N) n, false, 0⟩ (some x) := by
    unfold getP
    rw [if_neg (by omega)]
    rfl
  have hll : c.l.length = us.length := by rw [← List.length_map (f := (·.n)), h.num, List.length_reverse]
  have hnum : (c.l.map (·.n)).Nodup := by rw [h.num]; exact (List.reverse_perm us).symm.nodup h.nd
  have hh1 := hc.h0
  have hm1 := hc.m0
  have hsum := hc.sum
  have hev := hc.evs
  have he0 := hc.e0
  cases hf : c.l.find? (fun h => h.n == n) with
  | some x =>
    rw [hf] at hP0
    have hP : getP c (dN N) N n = (0, hitC c (x :: delL c.l n), dN N) := hP0
    rw [hP]
    obtain ⟨hxm, hxn⟩ := find_mem hf
    have hnu : n ∈ us := by
      have : n ∈ c.l.map (·.n) := List.mem_map.2 ⟨x, hxm, hxn⟩
      rw [h.num] at this
      exact List.mem_reverse.1 this
    have hfl : (us.filter fun x => x != n).length + 1 = us.length := by
      have hp : us.Perm (n :: us.filter fun x => x != n) := by
        rw [List.perm_ext_iff_of_nodup h.nd (List.nodup_cons.2 ⟨by simp, h.nd.filter _⟩)]
        intro a
        rw [List.mem_cons, List.mem_filter]
        simp only [bne_iff_ne]
        constructor
        · intro ha
          by_cases e : a = n
          · exact .inl e
          · exact .inr ⟨ha, e⟩
        · rintro (rfl | ⟨ha, _⟩)
          · exact hnu
          · exact ha
      rw [hp.length_eq]
      rfl
    have hstep : stepU size us n = (us.filter fun x => x != n) ++ [n] := by
      unfold stepU
      rw [if_neg]
      rw [List.length_append]
      have := h.len
      simp only [List.length_cons, List.length_nil]
      omega
    have hsl : (stepU size us n).length = us.length := by
      rw [hstep, List.length_append]
      simp only [List.length_cons, List.length_nil]
      omega
    refine ⟨rfl, rfl, ⟨h.sz, ?_, ?_, by rw [hsl]; exact h.len, ?_, ?_, ?_⟩, ⟨?_, hm1, ?_, ?_, he0⟩⟩
    · show (x :: delL c.l n).map (·.n) = _
      rw [List.map_cons, delL_num, h.num, hstep, List.reverse_append, hxn]
      show n :: _ = n :: _
      rw [List.filter_reverse]
      rfl
    · rw [hstep]
      exact List.nodup_append.2 ⟨h.nd.filter _, by simp, fun a ha b hb e => by simp at hb; subst hb; subst e; simp at ha⟩
    · intro u hu
      rw [hstep] at hu
      rcases List.mem_append.1 hu with hu | hu
      · exact h.lo u (List.mem_filter.1 hu).1
      · rw [List.mem_singleton.1 hu]; exact hn
    · intro y hy
      rcases List.mem_cons.1 hy with rfl | hy
      · exact h.cl _ hxm
      · exact h.cl y (delL_sub hy)
    · intro y hy
      rcases List.mem_cons.1 hy with rfl | hy
      · exact h.b512 _ hxm
      · exact h.b512 y (delL_sub hy)
    · show 0 ≤ winc c.hits
      rw [winc_small hh1 (by omega)]; omega
    · show winc c.hits + c.misses = ((k + 1 : Nat) : Int)
      rw [winc_small hh1 (by omega)]; omega
    · show c.evs = c.misses - ((stepU size us n).length : Int)
      rw [hsl]; exact hev
  | none =>
    rw [hf] at hP0
    have hnu : n ∉ us := fun hm => find_none hf (by rw [h.num]; exact List.mem_reverse.2 hm)
    have hfi := filter_id hnu
    by_cases hlt : us.length < size
    · have hP : getP c (dN N) N n = (0, missC c (⟨n, lastP (dN N) n, false, 0⟩ :: c.l), dN N) := by
        rw [hP0]
        show (if (c.l.length : Int) < c.size then _ else _) = _
        rw [if_pos (by rw [hll, h.sz]; omega)]
        rfl
      rw [hP]
      have hstep : stepU size us n = us ++ [n] := by
        unfold stepU
        rw [hfi, if_neg]
        rw [List.length_append]
        simp only [List.length_cons, List.length_nil]
        omega
      have hsl : (stepU size us n).length = us.length + 1 := by rw [hstep, List.length_append]; rfl
      refine ⟨rfl, rfl, ⟨h.sz, ?_, ?_, by rw [hsl]; omega, ?_, ?_, ?_⟩, ⟨hh1, ?_, ?_, ?_, he0⟩⟩
      · show n :: c.l.map (·.n) = _
        rw [h.num, hstep, List.reverse_append]
        rfl
      · rw [hstep]
        exact List.nodup_append.2 ⟨h.nd, by simp, fun a ha b hb e => by simp at hb; subst hb; subst e; exact hnu ha⟩
      · intro u hu
        rw [hstep] at hu
        rcases List.mem_append.1 hu with hu | hu
        · exact h.lo u hu
        · rw [List.mem_singleton.1 hu]; exact hn
      · intro y hy
        rcases List.mem_cons.1 hy with rfl | hy
        · exact ⟨rfl, rfl⟩
        · exact h.cl y hy
      · intro y hy
        rcases List.mem_cons.1 hy with rfl | hy
        · exact dN_last hn
        · exact h.b512 y hy
      · show 0 ≤ winc c.misses
        rw [winc_small hm1 (by omega)]; omega
      · show c.hits + winc c.misses = ((k + 1 : Nat) : Int)
        rw [winc_small hm1 (by omega)]; omega
      · show c.evs = winc c.misses - ((stepU size us n).length : Int)
        rw [hsl, winc_small hm1 (by omega), hev]; omega
    · have hle := h.len
      have hus : us.length = size := by omega
      obtain ⟨u0, ur, rfl⟩ : ∃ a b, us = a :: b := by
        cases us with
        | nil => simp at hus; omega
        | cons a b => exact ⟨a, b, rfl⟩
      obtain ⟨lr, x, hlx⟩ : ∃ lr x, c.l = lr ++ [x] := by
        rcases List.eq_nil_or_concat c.l with e | ⟨a, b, e⟩
        · rw [e] at hll; simp at hll
        · exact ⟨a, b, by rw [e, List.concat_eq_append]⟩
      have hmn : lr.map (·.n) = ur.reverse ∧ x.n = u0 := by
        have e := h.num
        rw [hlx, List.map_append, List.reverse_cons] at e
        have := List.append_inj' e rfl
        exact ⟨this.1, by simpa using this.2⟩
      have hv : vicL c.l = some x := by
        unfold vicL
        rw [hlx, List.reverse_append, List.reverse_singleton, List.singleton_append, List.find?_cons]
        simp [(h.cl x (by rw [hlx]; simp)).1]
      have hdel : delL c.l x.n = lr := by
        have hnx : x.n ∉ lr.map (·.n) := by
          have e := hnum
          rw [hlx, List.map_append] at e
          intro hm
          exact (List.nodup_append.1 e).2.2 _ hm _ (by simp) rfl
        unfold delL
        rw [hlx, List.filter_append, List.filter_cons, if_neg (by simp), List.filter_nil, List.append_nil, List.filter_eq_self]
        intro a ha
        simp only [bne_iff_ne]
        exact fun e => hnx (List.mem_map.2 ⟨a, ha, e⟩)
      have hP : getP c (dN N) N n = (0, missC (evC c lr) (⟨n, lastP (dN N) n, false, 0⟩ :: lr), dN N) := by
        rw [hP0]
        show (if (c.l.length : Int) < c.size then _ else _) = _
        rw [if_neg (by rw [hll, h.sz]; omega), hv]
        show (if x.dirty = true then _ else _) = _
        rw [if_neg (by simp [(h.cl x (by rw [hlx]; simp)).2]), hdel]
      rw [hP]
      have hstep : stepU size (u0 :: ur) n = ur ++ [n] := by
        unfold stepU
        rw [hfi, if_pos]
        · rfl
        · rw [List.length_append]
          simp only [List.length_cons, List.length_nil] at hus ⊢
          omega
      have hsl : (stepU size (u0 :: ur) n).length = (u0 :: ur).length := by rw [hstep, List.length_append]; rfl
      have hnd := List.nodup_cons.1 h.nd
      refine ⟨rfl, rfl, ⟨h.sz, ?_, ?_, by rw [hsl]; omega, ?_, ?_, ?_⟩, ⟨hh1, ?_, ?_, ?_, ?_⟩⟩
      · show n :: lr.map (·.n) = _
        rw [hmn.1, hstep, List.reverse_append]
        rfl
      · rw [hstep]
        exact List.nodup_append.2 ⟨hnd.2, by simp, fun a ha b hb e => by simp at hb; subst hb; subst e; exact hnu (List.mem_cons_of_mem _ ha)⟩
      · intro u hu
        rw [hstep] at hu
        rcases List.mem_append.1 hu with hu | hu
        · exact h.lo u (List.mem_cons_of_mem _ hu)
        · rw [List.mem_singleton.1 hu]; exact hn
      · intro y hy
        rcases List.mem_cons.1 hy with rfl | hy
        · exact ⟨rfl, rfl⟩
        · exact h.cl y (by rw [hlx]; exact List.mem_append.2 (.inl hy))
      · intro y hy
        rcases List.mem_cons.1 hy with rfl | hy
        · exact dN_last hn
        · exact h.b512 y (by rw [hlx]; exact List.mem_append.2 (.inl hy))
      · show 0 ≤ winc c.misses
        rw [winc_small hm1 (by omega)]; omega
      · show c.hits + winc c.misses = ((k + 1 : Nat) : Int)
        rw [winc_small hm1 (by omega)]; omega
      · show winc c.evs = winc c.misses - ((stepU size (u0 :: ur) n).length : Int)
        rw [hsl, winc_small hm1 (by omega), winc_small he0 (by rw [hev]; omega), hev]; omega
      · show 0 ≤ winc c.evs
        rw [winc_small he0 (by rw [hev]; omega)]; omega
/-- What is held is what was used. -/
theorem Cln.held {N size : Nat} {c : Ck} {us : List Nat} (h : Cln N size c us) : (heldL c N).length = us.length ∧ ∀ u ∈ heldL c N, u ∈ us := by
  have hm : ∀ a, a ∈ heldL c N ↔ a ∈ us := fun a => by
    unfold heldL
    rw [mem_which]
    constructor
    · rintro ⟨_, y, hy, e, _⟩
      have : a ∈ c.l.map (·.n) := List.mem_map.2 ⟨y, hy, e⟩
      rw [h.num] at this
      exact List.mem_reverse.1 this
    · intro ha
      have : a ∈ c.l.map (·.n) := by rw [h.num]; exact List.mem_reverse.2 ha
      obtain ⟨y, hy, e⟩ := List.mem_map.1 this
      exact ⟨h.lo a ha, y, hy, e, rfl⟩
  have hw : (heldL c N).Nodup := List.Pairwise.filter _ List.nodup_range
  exact ⟨((List.perm_ext_iff_of_nodup hw h.nd).2 hm).length_eq, fun u hu => (hm u).1 hu⟩
end Go.Proofs.Ytfapehgjiglflaa
