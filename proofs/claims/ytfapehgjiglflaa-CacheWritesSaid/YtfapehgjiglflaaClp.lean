/- CacheLoses: plain. -/
import Derived.Test.YtfapehgjiglflaaKz
namespace Go.Proofs.Ytfapehgjiglflaa
open Go.RowKit
def FB (l : List UInt8) (i : Nat) : List UInt8 := fullP [l.getD i 0, 1]
theorem FB_len (l : List UInt8) (i : Nat) : (FB l i).length = 512 := fullP_len _
theorem fullP_nil : fullP [] = zblk := by
  unfold fullP zblk
  rw [List.map_congr_left (g := fun _ => (0 : UInt8)) (fun i _ => by simp), List.map_const', List.length_range]
/-- k blocks are put; those below m are on the disk. -/
structure LInv (l : List UInt8) (k m : Nat) (c : Ck) (d : Dk) : Prop where
  sz : c.size = 30
  num : c.l.map (·.n) = (List.range k).reverse
  cl : ∀ h ∈ c.l, h.b = FB l h.n ∧ h.dirty = decide (m ≤ h.n)
  dl : d.l.length = 20
  wl : d.wt.length = 20
  of : d.off = false
  ar : d.arm = 0
  pk : d.picks = []
  wt : ∀ n, d.wt.getD n [] = []
  w0 : waitP d = 0
  ct : ∀ n, n < 20 → d.l.getD n [] = if n < m then FB l n else zblk
theorem getD_replK (N n : Nat) : (List.replicate N ([] : List (List UInt8))).getD n [] = [] := by
  rw [List.getD_eq_getElem?_getD]
  by_cases h : n < N
  · rw [List.getElem?_replicate, if_pos h]; rfl
  · rw [List.getElem?_replicate, if_neg h]; rfl
theorem waitP_of {d : Dk} (h : ∀ n, d.wt.getD n [] = []) : waitP d = 0 := by
  unfold waitP
  have : d.wt = List.replicate d.wt.length [] := by
    rw [List.eq_replicate_iff]
    refine ⟨rfl, fun b hb => ?_⟩
    obtain ⟨i, hi, rfl⟩ := List.getElem_of_mem hb
    have := h i
    rwa [List.getD_eq_getElem?_getD, List.getElem?_eq_getElem hi] at this
  rw [this, List.map_replicate]
  simp
theorem LInv.start (l : List UInt8) : LInv l 0 0 (newC 30) (dN 20) :=
  ⟨rfl, rfl, (fun h hh => absurd hh (by simp [newC])), newD_len 20, List.length_replicate, rfl, rfl, rfl, fun n => getD_replK 20 n, waitP_of (fun n => getD_replK 20 n), fun n hn => by
    rw [if_neg (Nat.not_lt_zero _)]
    show (List.replicate 20 zblk).getD n [] = zblk
    rw [List.getD_eq_getElem?_getD, List.getElem?_replicate, if_pos hn]
    rfl⟩
namespace LInv
variable {l : List UInt8} {k m : Nat} {c : Ck} {d : Dk}
theorem dko (h : LInv l k m c d) : Dko 20 d := ⟨h.dl, h.wl, by rw [h.w0]; omega, by rw [h.ar]; omega, by rw [h.pk]; simp⟩
theorem ok (h : LInv l k m c d) : Cok 20 c d := ⟨h.dko, fun x hx => by rw [(h.cl x hx).1]; exact FB_len _ _⟩
theorem len (h : LInv l k m c d) : c.l.length = k := by
  have := congrArg List.length h.num
  simpa using this
theorem put (h : LInv l k m c d) (hk : k < 20) (hm : m ≤ k) : (putP c d 20 k (FB l k)).1 = 0 ∧ (putP c d 20 k (FB l k)).2.2 = d ∧ LInv l (k + 1) m (putP c d 20 k (FB l k)).2.1 d := by
  have hno : k ∉ c.l.map (·.n) := by rw [h.num]; simp
  have hf : c.l.find? (fun h => h.n == k) = none := by
    rw [List.find?_eq_none]
    intro x hx
    simp only [beq_iff_eq]
    exact fun e => hno (List.mem_map.2 ⟨x, hx, e⟩)
  have hs : slotP c d 20 k = (0, missC c (⟨k, [], false, 0⟩ :: c.l), d) := by
    unfold slotP
    rw [Int.toNat_natCast, hf]
    show (if (c.l.length : Int) < c.size then holdP c d ⟨k, [], false, 0⟩ none else _) = _
    rw [if_pos (by rw [h.len, h.sz]; omega)]
    rfl
  have hP : putP c d 20 k (FB l k) = (0, ⟨c.size, ⟨k, FB l k, true, 0⟩ :: c.l, c.hits, winc c.misses, c.evs⟩, d) := by
    unfold putP
    rw [if_neg (by rw [FB_len]; omega), hs, if_pos rfl]
    rfl
  rw [hP]
  refine ⟨rfl, rfl, ⟨h.sz, ?_, ?_, h.dl, h.wl, h.of, h.ar, h.pk, h.wt, h.w0, h.ct⟩⟩
  · show k :: c.l.map (·.n) = _
    rw [h.num, List.range_succ, List.reverse_append]
    rfl
  · intro x hx
    rcases List.mem_cons.1 hx with rfl | hx
    · refine ⟨?_, ?_⟩
      · dsimp only
      · show true = decide (m ≤ k)
        exact (decide_eq_true hm).symm
    · exact h.cl x hx
end LInv
theorem lastP_add {d : Dk} {k : Nat} (hk : k < d.wt.length) (b : List UInt8) (n : Nat) : lastP (addD d k b) n = if n = k then b else lastP d n := by
  unfold lastP addD
  simp only
  by_cases e : n = k
  · subst e
    rw [if_pos rfl, List.getD_eq_getElem?_getD, List.getElem?_set_self hk]
    simp
  · rw [if_neg e, List.getD_eq_getElem?_getD, List.getElem?_set_ne (fun h => e h.symm), ← List.getD_eq_getElem?_getD]
theorem lastP_flD (l : List Hd) : ∀ (ks : List Nat) (d : Dk), (∀ k ∈ ks, k < d.wt.length) → ks.Nodup → ∀ n, lastP (flD l d ks) n = if n ∈ ks then bOf l n else lastP d n
  | [], d, _, _, n => by simp [flD]
  | a :: r, d, hk, hn, n => by
    have h1 := List.nodup_cons.1 hn
    have ih := lastP_flD l r (addD d a (bOf l a)) (fun k hk' => by
      show k < (List.set _ _ _).length
      rw [List.length_set]
      exact hk k (List.mem_cons_of_mem _ hk')) h1.2 n
    show lastP (flD l (addD d a (bOf l a)) r) n = _
    rw [ih, lastP_add (hk a (by simp))]
    by_cases e : n ∈ r
    · rw [if_pos e, if_pos (List.mem_cons_of_mem _ e)]
    · rw [if_neg e]
      by_cases e2 : n = a
      · subst e2; rw [if_pos rfl, if_pos (by simp)]
      · rw [if_neg e2, if_neg (by simp [e, e2])]
theorem bOf_at {c : Ck} {P : List UInt8} {n : Nat} (hm : n ∈ c.l.map (·.n)) (hb : ∀ h ∈ c.l, h.n = n → h.b = P) : bOf c.l n = P := by
  unfold bOf
  cases hf : c.l.find? (fun h => h.n == n) with
  | none => exact absurd hm (find_none hf)
  | some x =>
    obtain ⟨h1, h2⟩ := find_mem hf
    exact hb x h1 h2
theorem LInv.flush {l : List UInt8} {k : Nat} {c : Ck} {d : Dk} (h : LInv l k 0 c d) (hk : k ≤ 20) : LInv l k k (flushC c 20) (flushD c d 20) := by
  have hdm : ∀ n, n ∈ dirtyL c 20 ↔ n < k := fun n => by
    unfold dirtyL
    rw [mem_which]
    have hnk : n ∈ c.l.map (·.n) ↔ n < k := by rw [h.num]; simp
    constructor
    · rintro ⟨_, y, hy, e, _⟩
      exact hnk.1 (List.mem_map.2 ⟨y, hy, e⟩)
    · intro hn
      obtain ⟨y, hy, e⟩ := List.mem_map.1 (hnk.2 hn)
      exact ⟨by omega, y, hy, e, by rw [(h.cl y hy).2]; simp⟩
  have hnd : (dirtyL c 20).Nodup := List.Pairwise.filter _ List.nodup_range
  obtain ⟨f1, f2, f3, f4, f5⟩ := flD_keep c.l d (dirtyL c 20)
  have hlast : ∀ n, n < 20 → lastP (flD c.l d (dirtyL c 20)) n = if n < k then FB l n else zblk := fun n hn => by
    rw [lastP_flD c.l (dirtyL c 20) d (fun a ha => by rw [h.wl]; have := (hdm a).1 ha; omega) hnd]
    by_cases e : n < k
    · rw [if_pos ((hdm n).2 e), if_pos e]
      exact bOf_at (by rw [h.num]; simp; exact e) (fun y hy hyn => by rw [(h.cl y hy).1, hyn])
    · rw [if_neg (fun hm => e ((hdm n).1 hm)), if_neg e]
      unfold lastP
      rw [h.wt]
      show d.l.getD n [] = _
      rw [h.ct n hn, if_neg (Nat.not_lt_zero _)]
  refine ⟨h.sz, ?_, ?_, ?_, ?_, ?_, ?_, ?_, ?_, ?_, ?_⟩
  · show (c.l.map (clnIf (dirtyL c 20))).map (·.n) = _
    rw [List.map_map, ← h.num]
    exact List.map_congr_left fun y _ => clnIf_n _ y
  · intro x hx
    obtain ⟨y, hy, rfl⟩ := List.mem_map.1 hx
    rw [clnIf_b, clnIf_n]
    have hyk : y.n < k := by
      have : y.n ∈ c.l.map (·.n) := List.mem_map.2 ⟨y, hy, rfl⟩
      rw [h.num] at this
      simpa using this
    refine ⟨(h.cl y hy).1, ?_⟩
    rw [decide_eq_false (by omega)]
    unfold clnIf
    rw [if_pos ((hdm y.n).2 hyk)]
    rfl
  · show (List.map _ (List.range (flD c.l d (dirtyL c 20)).l.length)).length = 20
    rw [List.length_map, List.length_range, f1, h.dl]
  · show (List.replicate (flD c.l d (dirtyL c 20)).l.length _).length = 20
    rw [List.length_replicate, f1, h.dl]
  · exact f2.trans h.of
  · exact f3.trans h.ar
  · exact f4.trans h.pk
  · exact fun n => getD_replK _ n
  · exact waitP_of (fun n => getD_replK _ n)
  · intro n hn
    show (List.map (lastP (flD c.l d (dirtyL c 20))) (List.range (flD c.l d (dirtyL c 20)).l.length)).getD n [] = _
    rw [f1, h.dl, List.getD_eq_getElem?_getD, List.getElem?_map, List.getElem?_range hn]
    exact hlast n hn
/-- Behind a Drop: the blocks are read again. -/
structure GInv (j : Nat) (c : Ck) : Prop where
  sz : c.size = 30
  num : c.l.map (·.n) = (List.range j).reverse
  b5 : ∀ h ∈ c.l, h.b.length = 512
theorem GInv.get {l : List UInt8} {k m j : Nat} {c c0 : Ck} {d : Dk} (h : GInv j c) (hd : LInv l k m c0 d) (hj : j < 20) :
    (getP c d 20 j).1 = 0 ∧ (getP c d 20 j).2.2 = d ∧ GInv (j + 1) (getP c d 20 j).2.1 ∧ ∃ x r, (getP c d 20 j).2.1.l = x :: r ∧ x.b = if j < m then FB l j else zblk := by
  have hno : j ∉ c.l.map (·.n) := by rw [h.num]; simp
  have hf : c.l.find? (fun h => h.n == j) = none := by
    rw [List.find?_eq_none]
    intro x hx
    simp only [beq_iff_eq]
    exact fun e => hno (List.mem_map.2 ⟨x, hx, e⟩)
  have hlen : c.l.length = j := by
    have := congrArg List.length h.num
    simpa using this
  have hla : lastP d j = if j < m then FB l j else zblk := by
    unfold lastP
    rw [hd.wt]
    exact hd.ct j hj
  have hP : getP c d 20 j = (0, missC c (⟨j, lastP d j, false, 0⟩ :: c.l), d) := by
    unfold getP
    rw [if_neg (by omega), Int.toNat_natCast, hf]
    show (if (c.l.length : Int) < c.size then (if d.off = true then _ else _) else _) = _
    rw [if_pos (by rw [hlen, h.sz]; omega), if_neg (by simp [hd.of])]
    rfl
  rw [hP]
  have hb5 : (lastP d j).length = 512 := by rw [hla]; split; exact FB_len _ _; exact zblk_len
  refine ⟨rfl, rfl, ⟨h.sz, ?_, fun x hx => ?_⟩, _, _, rfl, hla⟩
  · show j :: c.l.map (·.n) = _
    rw [h.num, List.range_succ, List.reverse_append]
    rfl
  · rcases List.mem_cons.1 hx with rfl | hx
    · exact hb5
    · exact h.b5 x hx
end Go.Proofs.Ytfapehgjiglflaa
