import Derived.Test.YtoloogpglnonaaaFew
namespace Go.Proofs.Ytoloogpglnonaaa
open Go.RowKit
/- Plain laws: what is laid is read again. -/
def laid (p : Put3) : List UInt8 := if p.kind = 1 then [b8 p.n] else if p.kind = 2 then le16 p.n else if p.kind = 3 then le32 p.n else le32 p.bs.length ++ p.bs
theorem b8_num (n : Int) : ((b8 n).toNat : Int) = n % 256 := by
  unfold b8
  simp
  omega
theorem num1 (n : Int) : ((numP [b8 n] : Nat) : Int) = n % 256 := by
  have := b8_num n
  simp only [numP]
  omega
theorem num2 (n : Int) : ((numP (le16 n) : Nat) : Int) = n % 65536 := by
  have h0 := b8_num n
  have h1 := b8_num (n / 256)
  simp only [numP, le16]
  omega
theorem num4 (n : Int) : ((numP (le32 n) : Nat) : Int) = n % 4294967296 := by
  have h0 := b8_num n
  have h1 := b8_num (n / 256)
  have h2 := b8_num (n / 65536)
  have h3 := b8_num (n / 16777216)
  simp only [numP, le32]
  omega
theorem ofInt64_emod (n : Int) : ((BitVec.ofInt 64 n).toNat : Int) = n % 18446744073709551616 := by
  rw [BitVec.toNat_ofInt]
  omega
theorem and_mask (n : Int) (j : Nat) (hj : j ≤ 32) : bits .and .i64 n ((2 ^ j - 1 : Nat) : Int) = n % ((2 ^ j : Nat) : Int) := by
  have hm : 2 ^ j ≤ 4294967296 := Nat.pow_le_pow_right (by omega) hj
  have hp : 0 < 2 ^ j := Nat.two_pow_pos j
  show IntKind.i64.wrap ((BitVec.ofInt 64 n &&& BitVec.ofInt 64 ((2 ^ j - 1 : Nat) : Int)).toNat : Int) = _
  rw [BitVec.toNat_and, ofInt64_nat _ (by omega), Nat.and_two_pow_sub_one_eq_mod]
  have h1 := ofInt64_emod n
  have h2 : (((BitVec.ofInt 64 n).toNat % 2 ^ j : Nat) : Int) = n % ((2 ^ j : Nat) : Int) := by
    rw [Int.natCast_emod, h1]
    exact Int.emod_emod_of_dvd n (by
      have : (18446744073709551616 : Int) = ((2 ^ 64 : Nat) : Int) := by decide
      rw [this]
      exact Int.natCast_dvd_natCast.2 (Nat.pow_dvd_pow 2 (by omega)))
  rw [h2, IntKind.wrap_i64]
  have h3 : n % ((2 ^ j : Nat) : Int) < ((2 ^ j : Nat) : Int) := Int.emod_lt_of_pos _ (by omega)
  have h4 : 0 ≤ n % ((2 ^ j : Nat) : Int) := Int.emod_nonneg _ (by omega)
  omega
theorem takeP_app (a rest : List UInt8) (m : Nat) (h : a.length = m) : takeP (a ++ rest) 0 m = (a, rest, 0) := by
  subst h
  unfold takeP
  rw [if_neg (by decide), if_neg (by omega), if_neg (by rw [List.length_append]; omega), Int.toNat_natCast]
  simp
theorem bytesP_app (a rest : List UInt8) (h : a.length ≤ 4096) : bytesP (le32 a.length ++ a ++ rest) 0 4096 = (a, rest, 0) := by
  unfold bytesP
  have e := takeP_app (le32 a.length) (a ++ rest) 4 rfl
  rw [← List.append_assoc] at e
  rw [show (4 : Int) = ((4 : Nat) : Int) from rfl, e]
  have hn := num4 (a.length : Int)
  have hn2 : numP (le32 (a.length : Int)) = a.length := by omega
  simp only [hn2]
  rw [if_neg (by omega)]
  exact takeP_app a rest _ rfl
theorem laid_len (p : Put3) : (laid p).length ≤ 4 + p.bs.length := by
  unfold laid
  split
  · simp; omega
  · split
    · simp [le16]; omega
    · split
      · simp [le32]
      · simp [le32]; omega
def allP (ps : List Put3) : List UInt8 := ps.flatMap laid
theorem allP_succ (ps : List Put3) {k : Nat} (h : k < ps.length) : allP (ps.take (k + 1)) = allP (ps.take k) ++ laid ps[k] := by
  unfold allP
  rw [List.take_succ_eq_append_getElem h, List.flatMap_append]
  simp
theorem allP_drop (ps : List Put3) {k : Nat} (h : k < ps.length) : allP (ps.drop k) = laid ps[k] ++ allP (ps.drop (k + 1)) := by
  unfold allP
  rw [List.drop_eq_getElem_cons h, List.flatMap_cons]
theorem RdP.atB {w wr : World} {ps : List Put3} {A : Option Addr} {n c : Nat} (h : RdP w (.slice A n c) ps) (hB : Below w.heap.size w wr) {k : Nat} (hk : k < ps.length) :
    ∃ ad B m d, A = some ad ∧ wr.cell? (ad.add (k * 3)) = some (.int .i64 ps[k].kind) ∧ wr.cell? ⟨(ad.add (k * 3)).block, (ad.add (k * 3)).off + 1, none⟩ = some (.int .i64 ps[k].n) ∧
      wr.cell? ⟨(ad.add (k * 3)).block, (ad.add (k * 3)).off + 2, none⟩ = some (.slice B m d) ∧ m = ps[k].bs.length ∧ Rd wr (.slice B m d) (bvs ps[k].bs) ∧
      (ps[k].bs ≠ [] → ∀ j, (Value.slice B m d).ownBlock = some j → j < w.heap.size) := by
  obtain ⟨ad, B, m, d, rfl, c0, c1, c2, hm, hr⟩ := h.at_ hk
  have hc : ∀ {p v}, w.cell? p = some v → wr.cell? p = some v := fun {p v} h => (hB.cell (World.block_lt_of_cell? w _ h)).trans h
  refine ⟨ad, B, m, d, rfl, hc c0, hc c1, hc c2, hm, hr.below hB, fun hne j hj => ?_⟩
  obtain ⟨b, hb⟩ := List.exists_mem_of_ne_nil _ hne
  obtain ⟨a2, c3, e, hc3⟩ := hr.cell (j := 0) (by rw [bvs_length]; exact List.length_pos_iff.2 hne)
  injection e with e1 _ _
  subst e1
  have hl := World.block_lt_of_cell? w _ hc3
  rw [addr_add_block] at hl
  simp [Value.ownBlock] at hj
  rw [← hj]
  exact hl
end Go.Proofs.Ytoloogpglnonaaa
