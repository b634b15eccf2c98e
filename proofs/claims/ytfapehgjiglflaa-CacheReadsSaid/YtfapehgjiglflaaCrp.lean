/- CacheReads: plain. -/
import Derived.Test.YtfapehgjiglflaaCqp
namespace Go.Proofs.Ytfapehgjiglflaa
open Go.RowKit
/-- What a reader sees through the cache is P. -/
structure RInv (size M : Nat) (c : Ck) (d : Dk) (P : List (List UInt8)) : Prop where
  sz : c.size = (size : Int)
  nd : (c.l.map (·.n)).Nodup
  len : c.l.length ≤ size
  pin : ∀ h ∈ c.l, h.pins = 0
  lo : ∀ h ∈ c.l, h.n < 6
  b512 : ∀ h ∈ c.l, h.b.length = 512
  dl : d.l.length = 6
  wl : d.wt.length = 6
  of : d.off = false
  ar : d.arm = 0
  pk : d.picks = []
  wt : waitP d ≤ M
  vw : ∀ h ∈ c.l, h.b = P.getD h.n []
  dk : ∀ m, m < 6 → (∀ h ∈ c.l, h.n = m → h.dirty = false) → lastP d m = P.getD m []
  pl : P.length = 6
  p5 : ∀ m, m < 6 → (P.getD m []).length = 512
/-- There is room for one more. -/
structure Room (size M : Nat) (r : List Hd) (d : Dk) (P : List (List UInt8)) (n : Nat) : Prop where
  nd : (r.map (·.n)).Nodup
  no : n ∉ r.map (·.n)
  len : r.length < size
  pin : ∀ h ∈ r, h.pins = 0
  lo : ∀ h ∈ r, h.n < 6
  b512 : ∀ h ∈ r, h.b.length = 512
  dl : d.l.length = 6
  wl : d.wt.length = 6
  of : d.off = false
  ar : d.arm = 0
  pk : d.picks = []
  wt : waitP d ≤ M + 1
  vw : ∀ h ∈ r, h.b = P.getD h.n []
  dk : ∀ m, m < 6 → (∀ h ∈ r, h.n = m → h.dirty = false) → lastP d m = P.getD m []
def missL (c : Ck) (d : Dk) (hd : Hd) : Int × Ck × Dk := if (c.l.length : Int) < c.size then holdP c d hd none else match vicL c.l with
  | none => (13, c, d)
  | some x => holdP c d hd (some x)
namespace RInv
variable {size M : Nat} {c : Ck} {d : Dk} {P : List (List UInt8)}
theorem dko (h : RInv size M c d P) (hM : M ≤ 1000) : Dko 6 d := ⟨h.dl, h.wl, Nat.le_trans h.wt (by omega), by rw [h.ar]; omega, by rw [h.pk]; simp⟩
theorem ok (h : RInv size M c d P) (hM : M ≤ 1000) : Cok 6 c d := ⟨h.dko hM, h.b512⟩
theorem room (h : RInv size M c d P) (hs : 1 ≤ size) {n : Nat} (hno : n ∉ c.l.map (·.n)) (hd : Hd) :
    ∃ r d1 a b e, missL c d hd = (0, (⟨c.size, hd :: r, a, b, e⟩ : Ck), d1) ∧ Room size M r d1 P n := by
  unfold missL
  by_cases hlt : (c.l.length : Int) < c.size
  · rw [if_pos hlt]
    exact ⟨c.l, d, _, _, _, rfl, h.nd, hno, by have := h.sz; omega, h.pin, h.lo, h.b512, h.dl, h.wl, h.of, h.ar, h.pk, by have := h.wt; omega, h.vw, h.dk⟩
  · rw [if_neg hlt]
    have hlen := h.len
    have hsz := h.sz
    obtain ⟨x, hv, hxm⟩ : ∃ x, vicL c.l = some x ∧ x ∈ c.l := by
      cases hv : vicL c.l with
      | none =>
        exfalso
        unfold vicL at hv
        cases hcl : c.l with
        | nil => rw [hcl] at hlt hlen; simp at hlt; omega
        | cons a r =>
          have := List.find?_eq_none.1 hv a (by rw [hcl]; simp)
          rw [h.pin a (by rw [hcl]; simp)] at this
          simp at this
      | some x =>
        refine ⟨x, rfl, ?_⟩
        unfold vicL at hv
        exact List.mem_reverse.1 (List.mem_of_find?_eq_some hv)
    rw [hv]
    have hp := delL_at h.nd hxm
    have hsub : ∀ y ∈ delL c.l x.n, y ∈ c.l := fun y hy => delL_sub hy
    have hll := hp.length_eq
    rw [List.length_cons] at hll
    have hno2 : n ∉ (delL c.l x.n).map (·.n) := fun hm => by
      obtain ⟨y, hy, e⟩ := List.mem_map.1 hm
      exact hno (List.mem_map.2 ⟨y, hsub y hy, e⟩)
    have hnd2 : ((delL c.l x.n).map (·.n)).Nodup := (List.nodup_cons.1 ((hp.map (·.n)).nodup h.nd)).2
    have hin : ∀ y ∈ c.l, y.n ≠ x.n → y ∈ delL c.l x.n := fun y hy hne => by
      rcases List.mem_cons.1 (hp.subset hy) with rfl | hy
      · exact absurd rfl hne
      · exact hy
    have hat : ∀ y ∈ c.l, y.n = x.n → y = x := fun y hy hne => by
      rcases List.mem_cons.1 (hp.subset hy) with rfl | hy
      · rfl
      · exact absurd (List.mem_map.2 ⟨y, hy, hne⟩) (List.nodup_cons.1 ((hp.map (·.n)).nodup h.nd)).1
    cases hdy : x.dirty with
    | false =>
      refine ⟨delL c.l x.n, d, c.hits, winc c.misses, winc c.evs, ?_, hnd2, hno2, by omega, fun y hy => h.pin y (hsub y hy), fun y hy => h.lo y (hsub y hy), fun y hy => h.b512 y (hsub y hy), h.dl, h.wl, h.of, h.ar, h.pk, by have := h.wt; omega, fun y hy => h.vw y (hsub y hy), fun m hm hc => h.dk m hm fun y hy hyn => ?_⟩
      · show (if x.dirty = true then _ else _) = _
        rw [if_neg (by simp [hdy])]
        rfl
      · by_cases e : y.n = x.n
        · rw [hat y hy e]; exact hdy
        · exact hc y (hin y hy e) hyn
    | true =>
      have hW := writeP_okK (d := d) (n := x.n) (b := x.b) h.of (by rw [h.ar]; omega) (by rw [h.dl]; exact h.lo x hxm) (h.b512 x hxm)
      refine ⟨delL c.l x.n, addD d x.n x.b, c.hits, winc c.misses, winc c.evs, ?_, hnd2, hno2, by omega, fun y hy => h.pin y (hsub y hy), fun y hy => h.lo y (hsub y hy), fun y hy => h.b512 y (hsub y hy), h.dl, by show (List.set _ _ _).length = 6; rw [List.length_set]; exact h.wl, h.of, h.ar, h.pk, by have := h.wt; have h3 := waitP_addK d x.n x.b; omega, fun y hy => h.vw y (hsub y hy), fun m hm hc => ?_⟩
      · show (if x.dirty = true then _ else _) = _
        rw [if_pos hdy, hW, if_pos rfl]
        rfl
      · rw [lastP_add (by rw [h.wl]; exact h.lo x hxm)]
        by_cases e : m = x.n
        · rw [if_pos e, e]; exact h.vw x hxm
        · rw [if_neg e]
          refine h.dk m hm fun y hy hyn => ?_
          exact hc y (hin y hy (by rw [hyn]; exact e)) hyn
theorem find_some {n : Nat} {x : Hd} (h : RInv size M c d P) (hf : c.l.find? (fun h => h.n == n) = some x) :
    x ∈ c.l ∧ x.n = n ∧ (x :: delL c.l n).Perm c.l ∧ n ∉ (delL c.l n).map (·.n) ∧ (delL c.l n).length < c.l.length := by
  obtain ⟨hxm, hxn⟩ := find_mem hf
  have hp := delL_at h.nd hxm
  rw [hxn] at hp
  have h2 : x.n ∉ (delL c.l n).map (·.n) := (List.nodup_cons.1 ((hp.map (·.n)).nodup h.nd)).1
  rw [hxn] at h2
  have hl := hp.length_eq
  rw [List.length_cons] at hl
  exact ⟨hxm, hxn, hp.symm, h2, by omega⟩
theorem get (h : RInv size M c d P) (hs : 1 ≤ size) {n : Nat} (hn : n < 6) :
    (getP c d 6 n).1 = 0 ∧ RInv size (M + 1) (getP c d 6 n).2.1 (getP c d 6 n).2.2 P ∧ ∃ x r, (getP c d 6 n).2.1.l = x :: r ∧ x.b = P.getD n [] := by
  have hP0 : getP c d 6 n = match c.l.find? (fun h => h.n == n) with
      | some h => (0, hitC c (h :: delL c.l n), d)
      | none => missL c d ⟨n, lastP d n, false, 0⟩ := by
    unfold getP missL
    rw [if_neg (by omega), Int.toNat_natCast]
    simp only [h.of]
    rfl
  cases hf : c.l.find? (fun h => h.n == n) with
  | some x =>
    rw [hf] at hP0
    rw [show getP c d 6 n = (0, hitC c (x :: delL c.l n), d) from hP0]
    obtain ⟨hxm, hxn, hp, hno, hll⟩ := h.find_some hf
    have hm : ∀ y, y ∈ x :: delL c.l n ↔ y ∈ c.l := fun y => hp.mem_iff
    refine ⟨rfl, ⟨h.sz, (hp.map (·.n)).symm.nodup h.nd, by rw [show (hitC c (x :: delL c.l n)).l.length = c.l.length from hp.length_eq]; exact h.len, fun y hy => h.pin y ((hm y).1 hy), fun y hy => h.lo y ((hm y).1 hy), fun y hy => h.b512 y ((hm y).1 hy), h.dl, h.wl, h.of, h.ar, h.pk, by have := h.wt; show waitP d ≤ _; omega, fun y hy => h.vw y ((hm y).1 hy), fun m hm2 hc => h.dk m hm2 fun y hy => hc y ((hm y).2 hy), h.pl, h.p5⟩, x, _, rfl, ?_⟩
    rw [h.vw x hxm, hxn]
  | none =>
    rw [hf] at hP0
    have hP0 : getP c d 6 n = missL c d ⟨n, lastP d n, false, 0⟩ := hP0
    have hno := find_none hf
    have hb : lastP d n = P.getD n [] := h.dk n hn fun y hy e => absurd (List.mem_map.2 ⟨y, hy, e⟩) hno
    obtain ⟨r, d1, a, b, e, hM, hr⟩ := h.room hs hno ⟨n, lastP d n, false, 0⟩
    rw [hP0, hM]
    refine ⟨rfl, ⟨h.sz, List.nodup_cons.2 ⟨hr.no, hr.nd⟩, by show (_ :: r).length ≤ _; have := hr.len; rw [List.length_cons]; omega, ?_, ?_, ?_, hr.dl, hr.wl, hr.of, hr.ar, hr.pk, hr.wt, ?_, ?_, h.pl, h.p5⟩, _, _, rfl, hb⟩
    · intro y hy
      rcases List.mem_cons.1 hy with rfl | hy
      · rfl
      · exact hr.pin y hy
    · intro y hy
      rcases List.mem_cons.1 hy with rfl | hy
      · exact hn
      · exact hr.lo y hy
    · intro y hy
      rcases List.mem_cons.1 hy with rfl | hy
      · show (lastP d n).length = 512
        rw [hb]; exact h.p5 n hn
      · exact hr.b512 y hy
    · intro y hy
      rcases List.mem_cons.1 hy with rfl | hy
      · exact hb
      · exact hr.vw y hy
    · intro m hm hc
      exact hr.dk m hm fun y hy => hc y (List.mem_cons_of_mem _ hy)
theorem getD_set_P {P : List (List UInt8)} {n m : Nat} {b : List UInt8} (hn : n < P.length) : (P.set n b).getD m [] = if m = n then b else P.getD m [] := by
  rw [List.getD_eq_getElem?_getD, List.getElem?_set, List.getD_eq_getElem?_getD]
  by_cases e : n = m
  · subst e; simp [hn]
  · rw [if_neg e, if_neg (fun e2 => e e2.symm)]
/-- A block is put. -/
theorem put (h : RInv size M c d P) (hs : 1 ≤ size) {n : Nat} (hn : n < 6) {b : List UInt8} (hb : b.length = 512) :
    RInv size (M + 1) (putP c d 6 n b).2.1 (putP c d 6 n b).2.2 (P.set n b) := by
  have hput : putP c d 6 n b = if (slotP c d 6 n).1 = 0 then (0, putC (slotP c d 6 n).2.1 b, (slotP c d 6 n).2.2) else slotP c d 6 n := by
    unfold putP
    rw [if_neg (by rw [hb]; omega)]
  have hS : slotP c d 6 n = match c.l.find? (fun h => h.n == n) with
      | some h => (0, hitC c (h :: delL c.l n), d)
      | none => missL c d ⟨n, [], false, 0⟩ := by
    unfold slotP missL
    rw [Int.toNat_natCast]
    rfl
  have hnP : n < P.length := by rw [h.pl]; exact hn
  have hp5 : ∀ m, m < 6 → ((P.set n b).getD m []).length = 512 := fun m hm => by
    rw [getD_set_P hnP]
    split
    · exact hb
    · exact h.p5 m hm
  have hpl : (P.set n b).length = 6 := by rw [List.length_set]; exact h.pl
  cases hf : c.l.find? (fun h => h.n == n) with
  | some x =>
    rw [hf] at hS
    have hS : slotP c d 6 n = (0, hitC c (x :: delL c.l n), d) := hS
    rw [hS, if_pos rfl] at hput
    rw [hput]
    obtain ⟨hxm, hxn, hp, hno, hll⟩ := h.find_some hf
    have hsub : ∀ y ∈ delL c.l n, y ∈ c.l := fun y hy => delL_sub hy
    have hne : ∀ y ∈ delL c.l n, y.n ≠ n := fun y hy e => hno (List.mem_map.2 ⟨y, hy, e⟩)
    refine ⟨h.sz, ?_, ?_, ?_, ?_, ?_, h.dl, h.wl, h.of, h.ar, h.pk, by have := h.wt; show waitP d ≤ _; omega, ?_, ?_, hpl, hp5⟩
    · show ((⟨x.n, b, true, x.pins⟩ :: delL c.l n : List Hd).map (·.n)).Nodup
      exact (hp.map (·.n)).symm.nodup h.nd
    · show (⟨x.n, b, true, x.pins⟩ :: delL c.l n : List Hd).length ≤ size
      have := h.len
      rw [List.length_cons]; omega
    · intro y hy
      rcases List.mem_cons.1 (show y ∈ (⟨x.n, b, true, x.pins⟩ :: delL c.l n : List Hd) from hy) with rfl | hy
      · exact h.pin x hxm
      · exact h.pin y (hsub y hy)
    · intro y hy
      rcases List.mem_cons.1 (show y ∈ (⟨x.n, b, true, x.pins⟩ :: delL c.l n : List Hd) from hy) with rfl | hy
      · exact h.lo x hxm
      · exact h.lo y (hsub y hy)
    · intro y hy
      rcases List.mem_cons.1 (show y ∈ (⟨x.n, b, true, x.pins⟩ :: delL c.l n : List Hd) from hy) with rfl | hy
      · exact hb
      · exact h.b512 y (hsub y hy)
    · intro y hy
      rw [getD_set_P hnP]
      rcases List.mem_cons.1 (show y ∈ (⟨x.n, b, true, x.pins⟩ :: delL c.l n : List Hd) from hy) with rfl | hy
      · rw [if_pos hxn]
      · rw [if_neg (hne y hy)]; exact h.vw y (hsub y hy)
    · intro m hm hc
      have hmn : m ≠ n := fun e => by
        have := hc ⟨x.n, b, true, x.pins⟩ (show _ ∈ (⟨x.n, b, true, x.pins⟩ :: delL c.l n : List Hd) from List.mem_cons_self) (by show x.n = m; rw [hxn, e])
        cases this
      rw [getD_set_P hnP, if_neg hmn]
      refine h.dk m hm fun y hy hyn => ?_
      rcases List.mem_cons.1 (hp.symm.subset hy) with rfl | hy
      · exact absurd (hyn.symm.trans hxn) hmn
      · exact hc y (show _ ∈ (⟨x.n, b, true, x.pins⟩ :: delL c.l n : List Hd) from List.mem_cons_of_mem _ hy) hyn
  | none =>
    rw [hf] at hS
    have hS : slotP c d 6 n = missL c d ⟨n, [], false, 0⟩ := hS
    have hno := find_none hf
    obtain ⟨r, d1, a, b1, e, hM, hr⟩ := h.room hs hno ⟨n, [], false, 0⟩
    rw [hS, hM, if_pos rfl] at hput
    rw [hput]
    have hne : ∀ y ∈ r, y.n ≠ n := fun y hy e => hr.no (List.mem_map.2 ⟨y, hy, e⟩)
    refine ⟨h.sz, ?_, ?_, ?_, ?_, ?_, hr.dl, hr.wl, hr.of, hr.ar, hr.pk, hr.wt, ?_, ?_, hpl, hp5⟩
    · exact List.nodup_cons.2 ⟨hr.no, hr.nd⟩
    · show (⟨n, b, true, 0⟩ :: r : List Hd).length ≤ size
      have := hr.len
      rw [List.length_cons]; omega
    · intro y hy
      rcases List.mem_cons.1 (show y ∈ (⟨n, b, true, 0⟩ :: r : List Hd) from hy) with rfl | hy
      · rfl
      · exact hr.pin y hy
    · intro y hy
      rcases List.mem_cons.1 (show y ∈ (⟨n, b, true, 0⟩ :: r : List Hd) from hy) with rfl | hy
      · exact hn
      · exact hr.lo y hy
    · intro y hy
      rcases List.mem_cons.1 (show y ∈ (⟨n, b, true, 0⟩ :: r : List Hd) from hy) with rfl | hy
      · exact hb
      · exact hr.b512 y hy
    · intro y hy
      rw [getD_set_P hnP]
      rcases List.mem_cons.1 (show y ∈ (⟨n, b, true, 0⟩ :: r : List Hd) from hy) with rfl | hy
      · rw [if_pos rfl]
      · rw [if_neg (hne y hy)]; exact hr.vw y hy
    · intro m hm hc
      have hmn : m ≠ n := fun e => by
        have := hc ⟨n, b, true, 0⟩ (show _ ∈ (⟨n, b, true, 0⟩ :: r : List Hd) from List.mem_cons_self) e.symm
        cases this
      rw [getD_set_P hnP, if_neg hmn]
      exact hr.dk m hm fun y hy => hc y (show _ ∈ (⟨n, b, true, 0⟩ :: r : List Hd) from List.mem_cons_of_mem _ hy)
/-- Flushed it is so on the disk. -/
theorem flush (h : RInv size M c d P) : (flushD c d 6).l.length = 6 ∧ (flushD c d 6).off = false ∧ waitP (flushD c d 6) = 0 ∧ (∀ n, (flushD c d 6).wt.getD n [] = []) ∧ (∀ vs ∈ (flushD c d 6).wt, vs.length ≤ 1000000000) ∧ dirtyL (flushC c 6) 6 = [] ∧ ∀ n, n < 6 → lastP (flushD c d 6) n = P.getD n [] := by
  obtain ⟨f1, f2, f3, f4, f5⟩ := flD_keep c.l d (dirtyL c 6)
  have hnd : (dirtyL c 6).Nodup := List.Pairwise.filter _ List.nodup_range
  have hwt : ∀ n, (flushD c d 6).wt.getD n [] = [] := fun n => getD_replK _ n
  have hl6 : (flD c.l d (dirtyL c 6)).l.length = 6 := by rw [f1, h.dl]
  refine ⟨?_, f2.trans h.of, waitP_of hwt, hwt, ?_, ?_, fun n hn => ?_⟩
  · show (List.map _ (List.range _)).length = 6
    rw [List.length_map, List.length_range, hl6]
  · intro vs hvs
    rw [List.eq_of_mem_replicate (show vs ∈ List.replicate _ [] from hvs)]
    simp
  · have hm : ∀ a, a ∉ dirtyL (flushC c 6) 6 := fun a ha => by
      unfold dirtyL at ha
      obtain ⟨_, x, hx, e, hd⟩ := mem_which.1 ha
      obtain ⟨y, hy, rfl⟩ := List.mem_map.1 hx
      by_cases hyd : y.n ∈ dirtyL c 6
      · have hd : (if y.n ∈ dirtyL c 6 then clnH y else y).dirty = true := hd
        rw [if_pos hyd] at hd
        cases hd
      · have hd : (if y.n ∈ dirtyL c 6 then clnH y else y).dirty = true := hd
        rw [if_neg hyd] at hd
        exact hyd (mem_which.2 ⟨h.lo y hy, y, hy, rfl, hd⟩)
    exact List.eq_nil_iff_forall_not_mem.2 hm
  · have e1 : lastP (flushD c d 6) n = lastP (flD c.l d (dirtyL c 6)) n := by
      have : (flushD c d 6).l.getD n [] = lastP (flD c.l d (dirtyL c 6)) n := by
        show (List.map (lastP (flD c.l d (dirtyL c 6))) (List.range (flD c.l d (dirtyL c 6)).l.length)).getD n [] = _
        rw [hl6, List.getD_eq_getElem?_getD, List.getElem?_map, List.getElem?_range hn]
        rfl
      rw [← this]
      show ((((flushD c d 6).wt.getD n []).getLast?).getD _) = _
      rw [hwt n]
      rfl
    rw [e1, lastP_flD c.l (dirtyL c 6) d (fun a ha => by rw [h.wl]; exact (mem_which.1 ha).1) hnd]
    by_cases hm : n ∈ dirtyL c 6
    · rw [if_pos hm]
      obtain ⟨_, y, hy, e, _⟩ := mem_which.1 hm
      exact bOf_at (List.mem_map.2 ⟨y, hy, e⟩) fun z hz e => by rw [h.vw z hz, e]
    · rw [if_neg hm]
      refine h.dk n hn fun y hy e => ?_
      cases hyd : y.dirty with
      | false => rfl
      | true => exact absurd (mem_which.2 ⟨hn, y, hy, e, hyd⟩) hm
end RInv
theorem RInv.start {size : Nat} : RInv size 0 (newC size) (dN 6) (List.replicate 6 zblk) :=
  ⟨rfl, List.nodup_nil, Nat.zero_le _, (fun h hh => absurd hh (by simp [newC])), (fun h hh => absurd hh (by simp [newC])), (fun h hh => absurd hh (by simp [newC])), newD_len 6, List.length_replicate, rfl, rfl, rfl, Nat.le_of_eq (waitP_of (fun n => getD_replK 6 n)), (fun h hh => absurd hh (by simp [newC])), fun m hm _ => by
    show ((((dN 6).wt.getD m []).getLast?).getD ((dN 6).l.getD m [])) = _
    rw [show (dN 6).wt.getD m [] = [] from getD_replK 6 m]
    rfl, List.length_replicate, fun m hm => by
    rw [List.getD_eq_getElem?_getD, List.getElem?_replicate, if_pos hm]
    exact zblk_len⟩
def sv (P : List (List UInt8)) : Array Value := (P.map fun p => str p).toArray
theorem sv_at (P : List (List UInt8)) {n : Nat} (h : n < P.length) : (sv P)[n]? = some (str (P.getD n [])) := by
  unfold sv
  rw [List.getElem?_toArray, List.getElem?_map, List.getElem?_eq_getElem h, List.getD_eq_getElem?_getD, List.getElem?_eq_getElem h]
  rfl
theorem sv_set (P : List (List UInt8)) (n : Nat) (b : List UInt8) : (sv P).setIfInBounds n (str b) = sv (P.set n b) := by
  unfold sv
  rw [List.setIfInBounds_toArray, List.map_set]
end Go.Proofs.Ytfapehgjiglflaa
