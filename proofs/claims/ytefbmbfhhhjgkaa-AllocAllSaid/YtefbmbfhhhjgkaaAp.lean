/- Pools in plain words: the first free one, how many are free; a transaction's blocks. -/
import Derived.Test.YtefbmbfhhhjgkaaAb
namespace Go.Proofs.Ytefbmbfhhhjgkaa
open Go.RowKit
/-- The least that is free, from i on, of d. -/
def leastG (T : Nat → Bool) : Nat → Nat → Option Nat
  | 0, _ => none
  | d + 1, i => if T i = false then some i else leastG T d (i + 1)
theorem leastG_some {T : Nat → Bool} : ∀ {d i j : Nat}, leastG T d i = some j → i ≤ j ∧ j < i + d ∧ T j = false ∧ ∀ k, i ≤ k → k < j → T k = true
  | 0, i, j, h => by cases h
  | d + 1, i, j, h => by
    unfold leastG at h
    by_cases e : T i = false
    · rw [if_pos e] at h
      injection h with h
      subst h
      exact ⟨Nat.le_refl _, by omega, e, fun k h1 h2 => by omega⟩
    · rw [if_neg e] at h
      obtain ⟨h1, h2, h3, h4⟩ := leastG_some h
      refine ⟨by omega, by omega, h3, fun k hk hk2 => ?_⟩
      by_cases e2 : k = i
      · subst e2; simpa using e
      · exact h4 k (by omega) hk2
theorem leastG_none {T : Nat → Bool} : ∀ {d i : Nat}, leastG T d i = none → ∀ k, i ≤ k → k < i + d → T k = true
  | 0, i, _, k, h1, h2 => by omega
  | d + 1, i, h, k, h1, h2 => by
    unfold leastG at h
    by_cases e : T i = false
    · rw [if_pos e] at h; cases h
    · rw [if_neg e] at h
      by_cases e2 : k = i
      · subst e2; simpa using e
      · exact leastG_none h k (by omega) (by omega)
theorem leastG_of {T : Nat → Bool} {d i j : Nat} (h1 : i ≤ j) (h2 : j < i + d) (h3 : T j = false) (h4 : ∀ k, i ≤ k → k < j → T k = true) : leastG T d i = some j := by
  cases h : leastG T d i with
  | none => have := leastG_none h j h1 h2; rw [h3] at this; cases this
  | some k =>
    obtain ⟨a1, a2, a3, a4⟩ := leastG_some h
    rcases Nat.lt_trichotomy k j with e | e | e
    · have := h4 k a1 e; rw [a3] at this; cases this
    · rw [e]
    · have := a4 j h1 e; rw [h3] at this; cases this
theorem leastG_all {T : Nat → Bool} {d i : Nat} (h : ∀ k, i ≤ k → k < i + d → T k = true) : leastG T d i = none := by
  cases e : leastG T d i with
  | none => rfl
  | some k =>
    obtain ⟨a1, a2, a3, a4⟩ := leastG_some e
    have := h k a1 a2; rw [a3] at this; cases this
theorem leastG_congr {T T' : Nat → Bool} : ∀ {d i : Nat}, (∀ k, i ≤ k → k < i + d → T k = T' k) → leastG T d i = leastG T' d i
  | 0, _, _ => rfl
  | d + 1, i, h => by
    unfold leastG
    rw [h i (Nat.le_refl _) (by omega), leastG_congr (d := d) (i := i + 1) fun k h1 h2 => h k (by omega) (by omega)]
theorem runG1 (bs : List UInt8) : ∀ (d i : Nat), runG bs 1 d (i : Int) 0 = match leastG (fun j => hasP bs (j : Int)) d i with | some j => ((j : Int), true) | none => (0, false)
  | 0, _ => rfl
  | d + 1, i => by
    unfold runG leastG
    by_cases h : hasP bs (i : Int) = true
    · rw [if_pos h, if_neg (by decide), if_neg (by rw [h]; decide)]
      have := runG1 bs d (i + 1)
      rw [← this]
      rfl
    · have h' : hasP bs (i : Int) = false := by simpa using h
      rw [if_neg h, if_pos (by decide), if_pos h']
      show ((i : Int) - 1 + 1, true) = ((i : Int), true)
      rw [Int.sub_add_cancel]
theorem hasP_at {bs : List UInt8} (hl : bs.length = 512) {j : Nat} (hj : j < 4096) : hasP bs (j : Int) = bitAt bs j := by
  unfold hasP isP
  rw [decide_eq_true (by omega), decide_eq_true (by rw [hl]; omega), Int.toNat_natCast]
  rfl
theorem run1_eq {bs : List UInt8} (hl : bs.length = 512) {c : Nat} (hc : c ≤ 4096) : runP bs 0 (c : Int) 1 = match leastG (bitAt bs) c 0 with | some j => ((j : Int), true) | none => (0, false) := by
  unfold runP
  rw [if_neg (by decide)]
  have e1 : (hi bs (c : Int) - lo 0).toNat = c := by
    unfold hi lo
    rw [hl]
    omega
  have e2 : lo 0 = ((0 : Nat) : Int) := rfl
  rw [e1, e2, runG1, leastG_congr (T' := bitAt bs) fun k _ h2 => hasP_at hl (by omega)]
/-- How many are taken. -/
def cntT (T : Nat → Bool) (n : Nat) : Nat := ((List.range n).filter T).length
theorem cntT_succ (T : Nat → Bool) (n : Nat) : cntT T (n + 1) = cntT T n + (if T n = true then 1 else 0) := by
  unfold cntT
  rw [List.range_succ, List.filter_append, List.length_append]
  congr 1
  simp only [List.filter_cons, List.filter_nil]
  split <;> rfl
theorem cntT_le (T : Nat → Bool) (n : Nat) : cntT T n ≤ n := by
  unfold cntT
  have := List.length_filter_le T (List.range n)
  rwa [List.length_range] at this
theorem cntT_congr {T T' : Nat → Bool} : ∀ {n : Nat}, (∀ i, i < n → T i = T' i) → cntT T n = cntT T' n
  | 0, _ => rfl
  | n + 1, h => by rw [cntT_succ, cntT_succ, h n (by omega), cntT_congr (n := n) fun i hi => h i (by omega)]
theorem cntT_add (T : Nat → Bool) (a : Nat) : ∀ c, cntT T (a + c) = cntT T a + cntT (fun i => T (a + i)) c
  | 0 => rfl
  | c + 1 => by rw [← Nat.add_assoc, cntT_succ, cntT_succ, cntT_add T a c, Nat.add_assoc]
theorem cntG_eq (bs : List UInt8) : ∀ (d i : Nat), cntG bs d (i : Int) = (cntT (fun j => hasP bs ((i + j : Nat) : Int)) d : Int)
  | 0, _ => rfl
  | d + 1, i => by
    unfold cntG
    have := cntG_eq bs d (i + 1)
    have e : ((i + 1 : Nat) : Int) = (i : Int) + 1 := by omega
    rw [e] at this
    rw [this, show d + 1 = 1 + d by omega, cntT_add]
    have e1 : cntT (fun j => hasP bs ((i + j : Nat) : Int)) 1 = if hasP bs (i : Int) = true then 1 else 0 := by
      rw [show (1 : Nat) = 0 + 1 from rfl, cntT_succ]
      show 0 + _ = _
      rw [Nat.zero_add, Nat.add_zero]
    have e2 : cntT (fun j => hasP bs ((i + (1 + j) : Nat) : Int)) d = cntT (fun j => hasP bs ((i + 1 + j : Nat) : Int)) d := cntT_congr fun j _ => by rw [Nat.add_assoc]
    rw [e1, e2]
    split <;> simp
theorem count_eq {bs : List UInt8} (hl : bs.length = 512) {c : Nat} (hc : c ≤ 4096) : countP bs 0 (c : Int) = (cntT (bitAt bs) c : Int) := by
  unfold countP
  have e1 : (hi bs (c : Int) - lo 0).toNat = c := by
    unfold hi lo
    rw [hl]
    omega
  have e2 : lo 0 = ((0 : Nat) : Int) := rfl
  rw [e1, e2, cntG_eq, cntT_congr (T' := bitAt bs) fun i hi => by rw [Nat.zero_add]; exact hasP_at hl (by omega)]
theorem turn_len (bs : List UInt8) (i : Nat) : (turn bs i).length = bs.length := List.length_set
theorem bitAt_turn {bs : List UInt8} {i : Nat} (hi : i / 8 < bs.length) (j : Nat) : bitAt (turn bs i) j = if j = i then !bitAt bs i else bitAt bs j := by
  unfold bitAt turn
  have hb : (bs.getD (i / 8) 0).toNat < 256 := UInt8.toNat_lt _
  have hx : (bs.getD (i / 8) 0).toNat ^^^ 2 ^ (i % 8) < 256 := Nat.xor_lt_two_pow (n := 8) hb (Nat.pow_lt_pow_right (by omega) (by omega))
  have hg : (bs.set (i / 8) (UInt8.ofNat ((bs.getD (i / 8) 0).toNat ^^^ 2 ^ (i % 8)))).getD (j / 8) 0 = if j / 8 = i / 8 then UInt8.ofNat ((bs.getD (i / 8) 0).toNat ^^^ 2 ^ (i % 8)) else bs.getD (j / 8) 0 := by
    rw [List.getD_eq_getElem?_getD, List.getD_eq_getElem?_getD (l := bs) (i := j / 8)]
    by_cases e : j / 8 = i / 8
    · rw [e, List.getElem?_set_self hi, if_pos rfl]
      rfl
    · rw [List.getElem?_set_ne (fun h => e h.symm), if_neg e]
  rw [hg]
  by_cases e : j / 8 = i / 8
  · rw [if_pos e]
    have hn : (UInt8.ofNat ((bs.getD (i / 8) 0).toNat ^^^ 2 ^ (i % 8))).toNat = (bs.getD (i / 8) 0).toNat ^^^ 2 ^ (i % 8) := by
      rw [UInt8.toNat_ofNat']
      exact Nat.mod_eq_of_lt hx
    rw [hn, Nat.testBit_xor, Nat.testBit_two_pow]
    by_cases e2 : j = i
    · subst e2
      rw [if_pos rfl, decide_eq_true rfl]
      simp
    · rw [if_neg e2, e, decide_eq_false (by omega), Bool.xor_false]
  · rw [if_neg e, if_neg (fun h => e (by rw [h]))]
theorem setP_free {bs : List UInt8} (hl : bs.length = 512) {i : Nat} (hi : i < 4096) (h : bitAt bs i = false) : setP bs (i : Int) = (true, turn bs i) := by
  unfold setP isP
  rw [if_pos ⟨by rw [decide_eq_true (by omega), decide_eq_true (by rw [hl]; omega)]; rfl, by rw [Int.toNat_natCast]; exact h⟩, Int.toNat_natCast]
theorem clearP_eq {bs : List UInt8} (hl : bs.length = 512) {i : Nat} (hi : i < 4096) : clearP bs (i : Int) = if bitAt bs i = true then (true, turn bs i) else (false, bs) := by
  unfold clearP
  rw [hasP_at hl hi, Int.toNat_natCast]
/-- The blocks at bk tell which of n numbers are taken, from block m on. -/
def PB (bk : Nat → List UInt8) (m n : Nat) (T : Nat → Bool) : Prop := ∀ i, i < n → bitAt (bk (m + i / 4096)) (i % 4096) = T i
/-- What a transaction reads. -/
def tvw (x : Lk) (V : Nat → List UInt8) (t : Tk) (n : Nat) : List UInt8 := (t.m n).getD (datP x V n)
theorem tvw_put (x : Lk) (V : Nat → List UInt8) (t : Tk) (k : Nat) (bs : List UInt8) (n : Nat) : tvw x V (tput t k bs) n = if n = k then bs else tvw x V t n := by
  show ((if n = k then some bs else t.m n) : Option (List UInt8)).getD _ = _
  split <;> rfl
theorem tvw_len {N : Nat} {x : Lk} {V : Nat → List UInt8} {t : Tk} (h : LA N x V) (ht : TOk (N - 65) t) {n : Nat} (hn : n < N - 65) : (tvw x V t n).length = 512 := by
  unfold tvw
  cases hm : t.m n with
  | none => exact h.d5 hn
  | some b => exact (ht.wl n b hm).2
theorem treadP_tvw {N : Nat} {x : Lk} {V : Nat → List UInt8} {t : Tk} (h : LA N x V) (hN : 65 < N) (ho : t.ov = false) {n : Nat} (hn : n < N - 65) : treadP x t (n : Int) = (0, tvw x V t n) := by
  unfold treadP tvw
  rw [if_neg (by rw [ho]; decide)]
  have hfI : fI t.m (n : Int) = t.m n := by unfold fI; rw [if_pos (by omega), Int.toNat_natCast]
  rw [hfI]
  cases hm : t.m n with
  | some b => rfl
  | none =>
    show (lreadE x n, lvalP x _) = _
    rw [h.readE hN, if_neg (by omega), Int.toNat_natCast, h.val hn]
    rfl
/-- The blocks that it has written are of these. -/
def TSub (bl : List Nat) (t : Tk) : Prop := ∀ j, (t.m j).isSome = true → j ∈ bl
theorem nodup_sub : ∀ (a b : List Nat), a.Nodup → (∀ x ∈ a, x ∈ b) → a.length ≤ b.length
  | [], _, _, _ => Nat.zero_le _
  | x :: a, b, hn, hs => by
    have hx := hs x List.mem_cons_self
    have hn2 := List.nodup_cons.1 hn
    have := nodup_sub a (b.erase x) hn2.2 fun y hy => (List.mem_erase_of_ne (by intro e; subst e; exact hn2.1 hy)).2 (hs y (List.mem_cons_of_mem _ hy))
    rw [List.length_erase_of_mem hx] at this
    have hb : 0 < b.length := List.length_pos_of_mem hx
    simp only [List.length_cons]
    omega
theorem TSub.write {B : Nat} {bl : List Nat} {t : Tk} (h : TSub bl t) {k : Nat} (hk : k ∈ bl) (hl : bl.length ≤ 63) (hB : k < B) (ho : t.ov = false) {bs : List UInt8} (hb : bs.length = 512) : twriteP B t (k : Int) bs = (0, tput t k bs) ∧ TSub bl (tput t k bs) := by
  have e : twriteE B t (k : Int) bs = 0 := by
    unfold twriteE
    rw [if_neg (by omega), if_neg (by rw [ho]; decide), if_neg]
    rintro ⟨h1, h2⟩
    have hfI : fI t.m (k : Int) = t.m k := by unfold fI; rw [if_pos (by omega), Int.toNat_natCast]
    rw [hfI] at h1
    have := nodup_sub (ksW B t.m) (bl.erase k) (ksW_nodup _ _) fun y hy => by
      have hy2 := (mem_ksW.1 hy).2
      exact (List.mem_erase_of_ne (fun e => by rw [e, h1] at hy2; cases hy2)).2 (h y hy2)
    rw [List.length_erase_of_mem hk] at this
    have hp : 0 < bl.length := List.length_pos_of_mem hk
    omega
  unfold twriteP
  rw [e, if_pos rfl, Int.toNat_natCast]
  refine ⟨rfl, fun j hj => ?_⟩
  have hj : ((if j = k then some bs else t.m j) : Option (List UInt8)).isSome = true := hj
  by_cases e2 : j = k
  · rw [e2]; exact hk
  · rw [if_neg e2] at hj
    exact h j hj
theorem TOk.put {B : Nat} {bl : List Nat} {t : Tk} (h : TOk B t) (hs : TSub bl t) {k : Nat} (hk : k ∈ bl) (hl : bl.length ≤ 63) (hB : k < B) {bs : List UInt8} (hb : bs.length = 512) (ho : t.ov = false) : TOk B (tput t k bs) := by
  refine ⟨fun n b e => ?_, ?_⟩
  · have e : (if n = k then some bs else t.m n) = some b := e
    split at e
    · rename_i e1
      injection e with e2
      subst e1 e2
      exact ⟨hB, hb⟩
    · exact h.wl n b e
  · have h2 := (hs.write hk hl hB ho hb).2
    exact Nat.le_trans (nodup_sub _ bl (ksW_nodup _ _) fun y hy => h2 y (mem_ksW.1 hy).2) hl
/-- The pool's numbers, one more taken or given back. -/
theorem PB.flip {bk : Nat → List UInt8} {m n : Nat} {T : Nat → Bool} (h : PB bk m n T) {i : Nat} (hi : i < n) (hl : (bk (m + i / 4096)).length = 512) : PB (fun k => if k = m + i / 4096 then turn (bk (m + i / 4096)) (i % 4096) else bk k) m n (fun j => if j = i then !T i else T j) := fun j hj => by
  show bitAt (if m + j / 4096 = m + i / 4096 then turn (bk (m + i / 4096)) (i % 4096) else bk (m + j / 4096)) (j % 4096) = if j = i then !T i else T j
  by_cases e : j / 4096 = i / 4096
  · rw [if_pos (by rw [e]), bitAt_turn (by rw [hl]; omega)]
    by_cases e2 : j = i
    · subst e2
      rw [if_pos rfl, if_pos rfl, h j hj]
    · rw [if_neg (by omega), if_neg e2, ← h j hj, e]
  · rw [if_neg (by omega), if_neg (fun h => e (by rw [h])), h j hj]
end Go.Proofs.Ytefbmbfhhhjgkaa
