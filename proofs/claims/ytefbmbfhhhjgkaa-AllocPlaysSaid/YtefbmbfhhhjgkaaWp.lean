/- The log: plain words. A disk as what its blocks read. -/
import Derived.Test.YtefbmbfhhhjgkaaWr
import Derived.Laws.CopyOwn
namespace Go.Proofs.Ytefbmbfhhhjgkaa
open Go.RowKit
def nvs (l : List Nat) : List Value := l.map fun (k : Nat) => Value.int .i64 (k : Int)
theorem Rd.natAt {w : World} {A : Option Addr} {n c : Nat} {us : List Nat} (h : Rd w (.slice A n c) (nvs us)) {k : Nat} (hk : k < us.length) : ∃ ad, A = some ad ∧ w.cell? (ad.add k) = some (.int .i64 (us[k] : Int)) := by
  obtain ⟨ad, c', e, hc⟩ := h.cell (j := k) (by simpa [nvs] using hk)
  injection e with e1 _ _
  exact ⟨ad, e1, by rw [hc]; simp [nvs]⟩
theorem Rd.shapeN {w : World} {v : Value} {us : List Nat} (h : Rd w v (nvs us)) : ∃ A c, v = .slice A us.length c := by
  obtain ⟨A, c, rfl, _⟩ := h
  exact ⟨A, c, by simp [nvs]⟩
def upd (V : Nat → List UInt8) (n : Nat) (b : List UInt8) : Nat → List UInt8 := fun k => if k = n then b else V k
theorem upd_at (V : Nat → List UInt8) (n : Nat) (b : List UInt8) : upd V n b n = b := if_pos rfl
theorem upd_ne (V : Nat → List UInt8) {n k : Nat} (b : List UInt8) (h : k ≠ n) : upd V n b k = V k := if_neg h
/-- A disk with power, not armed, whose blocks read V. -/
structure Vw (N M : Nat) (d : Dk) (V : Nat → List UInt8) : Prop where
  dl : d.l.length = N
  wl : d.wt.length = N
  of : d.off = false
  ar : d.arm = 0
  pk : d.picks = []
  wt : waitP d ≤ M
  vw : ∀ n, n < N → lastP d n = V n
  b5 : ∀ n, n < N → (V n).length = 512
def Stl (d : Dk) : Prop := ∀ n, d.wt.getD n [] = []
theorem lastP_add {d : Dk} {k : Nat} (hk : k < d.wt.length) (b : List UInt8) (n : Nat) : lastP (addD d k b) n = if n = k then b else lastP d n := by
  unfold lastP addD
  simp only
  by_cases e : n = k
  · subst e
    rw [if_pos rfl, List.getD_eq_getElem?_getD, List.getElem?_set_self hk]
    simp
  · rw [if_neg e, List.getD_eq_getElem?_getD, List.getElem?_set_ne (fun h => e h.symm), ← List.getD_eq_getElem?_getD]
theorem getD_replK (N n : Nat) : (List.replicate N ([] : List (List UInt8))).getD n [] = [] := by
  rw [List.getD_eq_getElem?_getD]
  by_cases h : n < N
  · rw [List.getElem?_replicate, if_pos h]; rfl
  · rw [List.getElem?_replicate, if_neg h]; rfl
theorem waitP_of {d : Dk} (h : ∀ n, d.wt.getD n [] = []) : waitP d = 0 := by
  unfold waitP
  have : d.wt = List.replicate d.wt.length [] := by
    rw [List.eq_replicate_iff]
    refine ⟨rfl, fun b hb => ?_⟩
    obtain ⟨i, hi, rfl⟩ := List.getElem_of_mem hb
    have := h i
    rwa [List.getD_eq_getElem?_getD, List.getElem?_eq_getElem hi] at this
  rw [this, List.map_replicate]
  simp
theorem writeP_okK {d : Dk} {n : Nat} {b : List UInt8} (ho : d.off = false) (ha : ¬ 0 < d.arm) (hn : n < d.l.length) (hb : b.length = 512) : writeP d (n : Int) b = (0, addD d n b) := by
  have h0 : askP d n = 0 := by
    unfold askP
    rw [if_neg (by simp [ho]), if_neg (by omega)]
  unfold writeP
  rw [if_neg (by simp [h0]), if_neg (by simp [hb]), if_neg (by omega), if_neg ha]
  rfl
theorem waitP_addK (d : Dk) (k : Nat) (b : List UInt8) : waitP (addD d k b) ≤ waitP d + 1 := by
  have hg : ∀ (l : List (List (List UInt8))) (k : Nat), ((l.set k (l.getD k [] ++ [b])).map List.length).sum ≤ (l.map List.length).sum + 1 := by
    intro l
    induction l with
    | nil => intro k; simp
    | cons a r ih =>
      intro k
      cases k with
      | zero => simp; omega
      | succ k =>
        have := ih k
        simp only [List.set_cons_succ, List.map_cons, List.sum_cons, List.getD_cons_succ] at this ⊢
        omega
  exact hg d.wt k
namespace Vw
variable {N M : Nat} {d : Dk} {V : Nat → List UInt8}
theorem mono {M' : Nat} (h : Vw N M d V) (hm : M ≤ M') : Vw N M' d V := ⟨h.dl, h.wl, h.of, h.ar, h.pk, Nat.le_trans h.wt hm, h.vw, h.b5⟩
theorem ask (h : Vw N M d V) {n : Nat} (hn : n < N) : askP d (n : Int) = 0 := by
  unfold askP
  rw [if_neg (by simp [h.of]), if_neg (by rw [h.dl]; omega)]
theorem write (h : Vw N M d V) {n : Nat} (hn : n < N) {b : List UInt8} (hb : b.length = 512) : writeP d (n : Int) b = (0, addD d n b) ∧ Vw N (M + 1) (addD d n b) (upd V n b) := by
  refine ⟨writeP_okK h.of (by rw [h.ar]; omega) (by rw [h.dl]; exact hn) hb, h.dl, by show (List.set _ _ _).length = N; rw [List.length_set]; exact h.wl, h.of, h.ar, h.pk, ?_, fun k hk => ?_, fun k hk => ?_⟩
  · have := h.wt
    have := waitP_addK d n b
    omega
  · rw [lastP_add (by rw [h.wl]; exact hn)]
    unfold upd
    rw [h.vw k hk]
  · unfold upd
    split
    · exact hb
    · exact h.b5 k hk
theorem sync (h : Vw N M d V) : Vw N 0 (syncD d) V ∧ Stl (syncD d) := by
  have hwt : ∀ n, (syncD d).wt.getD n [] = [] := fun n => getD_replK _ n
  refine ⟨⟨?_, ?_, h.of, h.ar, h.pk, Nat.le_of_eq (waitP_of hwt), fun n hn => ?_, h.b5⟩, hwt⟩
  · show (List.map _ (List.range _)).length = N
    rw [List.length_map, List.length_range, h.dl]
  · show (List.replicate _ _).length = N
    rw [List.length_replicate, h.dl]
  · have : (syncD d).l.getD n [] = lastP d n := by
      show (List.map (lastP d) (List.range d.l.length)).getD n [] = _
      rw [h.dl, List.getD_eq_getElem?_getD, List.getElem?_map, List.getElem?_range hn]
      rfl
    rw [← h.vw n hn, ← this]
    show ((((syncD d).wt.getD n []).getLast?).getD _) = _
    rw [hwt n]
    rfl
theorem few (h : Vw N M d V) : ∀ vs ∈ d.wt, vs.length ≤ M := fun vs hv => Nat.le_trans (waitP_le d hv) h.wt
end Vw
theorem zblk_len' : zblk.length = 512 := zblk_len
theorem Vw.new (N : Nat) : Vw N 0 (newD N) (fun _ => zblk) ∧ Stl (newD N) := by
  have hwt : ∀ n, (newD N).wt.getD n [] = [] := fun n => getD_replK N n
  refine ⟨⟨newD_len N, List.length_replicate, rfl, rfl, rfl, Nat.le_of_eq (waitP_of hwt), fun n hn => ?_, fun _ _ => zblk_len⟩, hwt⟩
  show ((((newD N).wt.getD n []).getLast?).getD ((newD N).l.getD n [])) = _
  rw [hwt n]
  show (List.replicate N zblk).getD n [] = zblk
  rw [List.getD_eq_getElem?_getD, List.getElem?_replicate, if_pos hn]
  rfl
def magicB : List UInt8 := [109, 97, 105, 108, 98, 97, 103, 49]
def headB (ns : List Nat) : List UInt8 := (magicB ++ le16 (ns.length : Int)) ++ ns.flatMap fun n : Nat => le16 (n : Int)
theorem flat_len : ∀ ns : List Nat, (ns.flatMap fun n : Nat => le16 (n : Int)).length = 2 * ns.length
  | [] => rfl
  | a :: r => by
    rw [List.flatMap_cons, List.length_append, flat_len r, List.length_cons]
    show 2 + _ = _
    omega
theorem headB_len (ns : List Nat) : (headB ns).length = 10 + 2 * ns.length := by
  unfold headB
  rw [List.length_append, flat_len]
  rfl
def headP (ns : List Nat) : List UInt8 := headB ns ++ List.replicate (502 - 2 * ns.length) 0
theorem headP_len {ns : List Nat} (h : ns.length ≤ 63) : (headP ns).length = 512 := by
  unfold headP
  rw [List.length_append, headB_len, List.length_replicate]
  omega
theorem head_splice {ns : List Nat} (h : ns.length ≤ 63) (Z : List Value) (hZ : Z = List.replicate 512 (.int .u8 0)) : splice Z 0 (bvs (headB ns)) = bvs (headP ns) := by
  subst hZ
  unfold splice headP
  rw [bvs_append, List.take_zero, List.nil_append, Nat.zero_add, bvs_length, headB_len, List.drop_replicate]
  congr 1
  rw [show 512 - (10 + 2 * ns.length) = 502 - 2 * ns.length by omega]
  unfold bvs
  rw [List.map_replicate]
  rfl
end Go.Proofs.Ytefbmbfhhhjgkaa
