/- The log with power, unarmed: what its calls do, in plain words. The log with power, unarmed: opened, committed to, cut and on again, in plain words. -/
import Derived.Test.YtefbmbfhhhjgkaaWv
namespace Go.Proofs.Ytefbmbfhhhjgkaa
open Go.RowKit
theorem Vw.ext {N M : Nat} {d : Dk} {V V' : Nat → List UInt8} (h : Vw N M d V) (he : ∀ n, n < N → V n = V' n) : Vw N M d V' := ⟨h.dl, h.wl, h.of, h.ar, h.pk, h.wt, fun n hn => (h.vw n hn).trans (he n hn), fun n hn => he n hn ▸ h.b5 n hn⟩
/-- Step f goes well on a disk that reads V, and leaves one that reads V'. -/
def Ok (N : Nat) (f : DW) (V V' : Nat → List UInt8) : Prop := ∀ M d, Vw N M d V → ∃ M' d', f d = (0, d') ∧ Vw N M' d' V'
namespace Ok
variable {N : Nat} {V V' V1 : Nat → List UInt8} {f : DW}
theorem write {n : Nat} (hn : n < N) {b : List UInt8} (hb : b.length = 512) : Ok N (wrW (n : Int) b) V (upd V n b) := fun M d h => by
  obtain ⟨h1, h2⟩ := h.write hn hb
  exact ⟨_, _, h1, h2⟩
theorem sync : Ok N syncW V V := fun M d h => by
  refine ⟨0, syncD d, ?_, h.sync.1⟩
  unfold syncW
  rw [if_neg (by simp [h.of])]
theorem nil : Ok N (seqW []) V V := fun M d h => ⟨M, d, rfl, h⟩
theorem cons {r : List DW} (h : Ok N f V V1) (h2 : Ok N (seqW r) V1 V') : Ok N (seqW (f :: r)) V V' := fun M d hd => by
  obtain ⟨M1, d1, e1, hd1⟩ := h M d hd
  obtain ⟨M2, d2, e2, hd2⟩ := h2 M1 d1 hd1
  exact ⟨M2, d2, by rw [seqW_step (by rw [e1]), e1]; exact e2, hd2⟩
theorem ext (h : Ok N f V V') {V2 : Nat → List UInt8} (he : ∀ n, n < N → V' n = V2 n) : Ok N f V V2 := fun M d hd => by
  obtain ⟨M1, d1, e1, hd1⟩ := h M d hd
  exact ⟨M1, d1, e1, hd1.ext he⟩
theorem from_ (h : Ok N f V V') {V2 : Nat → List UInt8} (he : ∀ n, n < N → V2 n = V n) : Ok N f V2 V' := fun M d hd => h M d (hd.ext he)
theorem seqs {fs : List DW} {Vs : Nat → Nat → List UInt8} (h : ∀ i (hi : i < fs.length), Ok N (fs[i]'hi) (Vs i) (Vs (i + 1))) : Ok N (seqW fs) (Vs 0) (Vs fs.length) := by
  induction fs generalizing Vs with
  | nil => exact nil
  | cons f r ih =>
    refine cons (h 0 (by simp)) ?_
    have := ih (Vs := fun i => Vs (i + 1)) (fun i hi => h (i + 1) (by simp; omega))
    exact this
theorem maps {K : Nat} {g : Nat → DW} {Vs : Nat → Nat → List UInt8} (h : ∀ i, i < K → Ok N (g i) (Vs i) (Vs (i + 1))) : Ok N (seqW ((List.range K).map g)) (Vs 0) (Vs K) := by
  have := seqs (N := N) (fs := (List.range K).map g) (Vs := Vs) (fun i hi => by
    simp at hi
    rw [List.getElem_map, List.getElem_range]
    exact h i hi)
  simpa using this
theorem clean {n : Nat} (hn : n < N) : Ok N (cleanS n) V (upd V n zblk) := fun M d h => by
  unfold cleanS
  rw [if_neg (by rw [h.ask hn]; simp)]
  by_cases e : lastP d n = zblk
  · rw [if_pos e]
    refine ⟨M, d, rfl, h.ext fun k hk => ?_⟩
    unfold upd
    split
    · rename_i e2
      subst e2
      rw [← h.vw k hk, e]
    · rfl
  · rw [if_neg e]
    exact write hn zblk_len M d h
theorem copy {i j : Nat} (hi : i < N) (hj : j < N) : Ok N (copyW (i : Int) (j : Int)) V (upd V j (V i)) := fun M d h => by
  unfold copyW
  rw [if_neg (by rw [h.ask hi]; simp), Int.toNat_natCast, h.vw i hi]
  exact write hj (h.b5 i hi) M d h
end Ok
def fmtV : Nat → List UInt8 := fun k => if k = 0 then headP [] else zblk
theorem Ok.format {N : Nat} (hN : 0 < N) (V : Nat → List UInt8) : Ok N (formatW N) V fmtV := by
  have hc : Ok N (cleanW N) (upd V 0 zblk) (fun k => if k < N then zblk else upd V 0 zblk k) := by
    have := Ok.maps (N := N) (K := N) (g := cleanS) (Vs := fun i k => if k < i then zblk else upd V 0 zblk k) (fun i hi => (Ok.clean hi).ext fun k _ => by
      show (if k = i then zblk else if k < i then zblk else upd V 0 zblk k) = if k < i + 1 then zblk else upd V 0 zblk k
      by_cases e : k = i
      · subst e; rw [if_pos rfl, if_pos (by omega)]
      · rw [if_neg e]
        by_cases e2 : k < i
        · rw [if_pos e2, if_pos (by omega)]
        · rw [if_neg e2, if_neg (by omega)])
    exact (this.from_ (fun k _ => by rw [if_neg (by omega)]))
  unfold formatW
  refine Ok.cons (Ok.write hN zblk_len) (Ok.cons Ok.sync (Ok.cons hc (Ok.cons Ok.sync (Ok.cons (Ok.write hN (headP_len (by decide))) (Ok.cons Ok.sync (Ok.nil.ext fun k hk => ?_))))))
  unfold upd fmtV
  by_cases e : k = 0
  · rw [if_pos e, if_pos e]
  · rw [if_neg e, if_neg e]
    exact if_pos hk
/-- A step that ends with a Sync leaves nothing waiting. -/
theorem seqW_append {a b : List DW} {d : Dk} : seqW (a ++ b) d = if (seqW a d).1 = 0 then seqW b (seqW a d).2 else seqW a d := by
  induction a generalizing d with
  | nil => rfl
  | cons f r ih =>
    rw [List.cons_append]
    by_cases h : (f d).1 = 0
    · rw [seqW_step h, seqW_step h, ih]
    · rw [seqW_stop h, seqW_stop h, if_neg h]
theorem sync_end {N M : Nat} {a : List DW} {d d' : Dk} {V : Nat → List UInt8} (h : seqW (a ++ [syncW]) d = (0, d')) (hv : Vw N M d' V) : Vw N 0 d' V ∧ Stl d' := by
  rw [seqW_append] at h
  split at h
  · have : ∃ q, d' = syncD q := by
      unfold seqW at h
      split at h
      · rename_i h2
        unfold syncW at h h2
        split at h
        · rename_i h3; rw [if_pos h3] at h2; cases h2
        · injection h with _ h
          exact ⟨_, h.symm⟩
      · rename_i h1 h2
        rw [h] at h2
        exact absurd rfl h2
    obtain ⟨q, rfl⟩ := this
    have hwt : ∀ n, (syncD q).wt.getD n [] = [] := fun n => getD_replK _ n
    exact ⟨⟨hv.dl, hv.wl, hv.of, hv.ar, hv.pk, Nat.le_of_eq (waitP_of hwt), hv.vw, hv.b5⟩, hwt⟩
  · rename_i h1
    rw [h] at h1
    exact absurd rfl h1
theorem format_ok {N M : Nat} {d : Dk} {V : Nat → List UInt8} (h : Vw N M d V) (hN : 65 < N) : ∃ d', formatP d = (0, d') ∧ Vw N 0 d' fmtV ∧ Stl d' := by
  obtain ⟨M', d', e, hv⟩ := Ok.format (by omega : 0 < N) V M d h
  have ha : askW d = 0 := by
    unfold askW
    rw [if_neg (by rw [h.dl]; omega), if_neg (by simp [h.of])]
  refine ⟨d', ?_, sync_end (a := [wrW 0 zblk, syncW, cleanW N, syncW, wrW 0 (headP [])]) e hv⟩
  unfold formatP
  rw [if_neg (by simp [ha]), h.dl, e]
/-- What settling leaves: copies at their homes, an empty first block. -/
def homeV (V : Nat → List UInt8) (ns : List Nat) (i : Nat) : Nat → List UInt8 := match i with
  | 0 => V
  | i + 1 => upd (homeV V ns i) (65 + ns.getD i 0) (V (1 + i))
theorem homeV_low (V : Nat → List UInt8) (ns : List Nat) : ∀ i k, k < 65 → homeV V ns i k = V k
  | 0, _, _ => rfl
  | i + 1, k, hk => by rw [homeV, upd_ne _ _ (by omega), homeV_low V ns i k hk]
theorem homeV_other (V : Nat → List UInt8) (ns : List Nat) : ∀ i n, n ∉ ns.take i → i ≤ ns.length → homeV V ns i (65 + n) = V (65 + n)
  | 0, _, _, _ => rfl
  | i + 1, n, hn, hi => by
    have h1 : i < ns.length := by omega
    rw [List.take_succ_eq_append_getElem h1, List.mem_append, List.mem_singleton] at hn
    have e : ns.getD i 0 = ns[i] := by rw [List.getD_eq_getElem?_getD, List.getElem?_eq_getElem h1]; rfl
    rw [homeV, upd_ne _ _ (by rw [e]; intro e2; exact hn (.inr (by omega))), homeV_other V ns i n (fun h => hn (.inl h)) (by omega)]
theorem homeV_at (V : Nat → List UInt8) (ns : List Nat) (hd : ns.Nodup) : ∀ i j (hj : j < i), i ≤ ns.length → homeV V ns i (65 + ns.getD j 0) = V (1 + j)
  | i + 1, j, hj, hi => by
    rw [homeV]
    by_cases e : j = i
    · subst e; rw [upd_at]
    · have h1 : i < ns.length := by omega
      have h2 : j < ns.length := by omega
      have e1 : ns.getD i 0 = ns[i] := by rw [List.getD_eq_getElem?_getD, List.getElem?_eq_getElem h1]; rfl
      have e2 : ns.getD j 0 = ns[j] := by rw [List.getD_eq_getElem?_getD, List.getElem?_eq_getElem h2]; rfl
      rw [upd_ne _ _ (by
        rw [e1, e2]
        intro h
        have h3 : ns[j] = ns[i] := by omega
        exact e ((List.getElem_inj hd).1 h3)), homeV_at V ns hd i j (by omega) (by omega)]
theorem Ok.home {N : Nat} {V : Nat → List UInt8} {ns : List Nat} (hl : ns.length ≤ 63) (hN : 65 < N) (hn : ∀ n ∈ ns, n < N - 65) : Ok N (homeW ns) V (homeV V ns ns.length) := by
  refine Ok.maps (Vs := homeV V ns) (fun i hi => ?_)
  have h1 : ns.getD i 0 < N - 65 := by
    rw [List.getD_eq_getElem?_getD, List.getElem?_eq_getElem hi]
    exact hn _ (List.getElem_mem hi)
  refine (Ok.copy (V := homeV V ns i) (i := 1 + i) (j := 65 + ns.getD i 0) (by omega) (by omega)).ext fun k _ => ?_
  rw [homeV_low V ns i (1 + i) (by omega)]
  rfl
theorem Ok.settle {N : Nat} {V : Nat → List UInt8} {ns : List Nat} (hl : ns.length ≤ 63) (hN : 65 < N) (hn : ∀ n ∈ ns, n < N - 65) : Ok N (settleW ns) V (upd (homeV V ns ns.length) 0 (headP [])) :=
  Ok.cons Ok.sync (Ok.cons (Ok.home hl hN hn) (Ok.cons Ok.sync (Ok.cons (Ok.write (n := 0) (by omega) (headP_len (by decide))) (Ok.cons Ok.sync Ok.nil))))
def copiesV (V : Nat → List UInt8) (ns : List Nat) (f : Nat → Option (List UInt8)) (i : Nat) : Nat → List UInt8 := fun k => if 1 ≤ k ∧ k ≤ i then (f (ns.getD (k - 1) 0)).getD [] else V k
theorem Ok.copies {N : Nat} {V : Nat → List UInt8} {ns : List Nat} {f : Nat → Option (List UInt8)} (hl : ns.length ≤ 63) (hN : 65 < N) (hf : ∀ n ∈ ns, ∃ b, f n = some b ∧ b.length = 512) : Ok N (copiesW ns f) V (copiesV V ns f ns.length) := by
  refine (Ok.maps (Vs := copiesV V ns f) (fun i hi => ?_)).from_ (fun k _ => by unfold copiesV; rw [if_neg (by omega)])
  obtain ⟨b, hb, hb5⟩ := hf (ns.getD i 0) (by
    rw [List.getD_eq_getElem?_getD, List.getElem?_eq_getElem hi]
    exact List.getElem_mem hi)
  rw [hb]
  refine (Ok.write (n := 1 + i) (by omega) hb5).ext fun k _ => ?_
  unfold upd copiesV
  by_cases e : k = 1 + i
  · rw [if_pos e, if_pos (by omega), show k - 1 = i by omega, hb]
    rfl
  · rw [if_neg e]
    by_cases e2 : 1 ≤ k ∧ k ≤ i
    · rw [if_pos e2, if_pos (by omega)]
    · rw [if_neg e2, if_neg (by omega)]
theorem Ok.lsync {N : Nat} {V : Nat → List UInt8} {ns : List Nat} {f : Nat → Option (List UInt8)} (hl : ns.length ≤ 63) (hN : 65 < N) (hn : ∀ n ∈ ns, n < N - 65) (hf : ∀ n ∈ ns, ∃ b, f n = some b ∧ b.length = 512) :
    Ok N (lsyncW ns f) V (upd (homeV (upd (copiesV V ns f ns.length) 0 (headP ns)) ns ns.length) 0 (headP [])) :=
  Ok.cons (Ok.copies hl hN hf) (Ok.cons Ok.sync (Ok.cons (Ok.write (n := 0) (by omega) (headP_len hl)) (Ok.cons (Ok.settle hl hN hn) Ok.nil)))
/-- A log of data blocks D, with power, unarmed, nothing waiting on its disk. -/
structure LA (N : Nat) (x : Lk) (V : Nat → List UInt8) : Prop where
  vw : Vw N 0 x.d V
  st : Stl x.d
  h0 : V 0 = headP []
  wl : ∀ n b, x.wt n = some b → n < N - 65 ∧ b.length = 512
  k63 : (ksW (N - 65) x.wt).length ≤ 63
/-- A data block as it was committed last. -/
def datP (x : Lk) (V : Nat → List UInt8) (n : Nat) : List UInt8 := (x.wt n).getD (V (65 + n))
theorem LA.val {N : Nat} {x : Lk} {V : Nat → List UInt8} (h : LA N x V) {n : Nat} (hn : n < N - 65) : lvalP x n = datP x V n := by
  unfold lvalP datP
  rw [h.vw.vw (65 + n) (by omega)]
theorem LA.d5 {N : Nat} {x : Lk} {V : Nat → List UInt8} (h : LA N x V) {n : Nat} (hn : n < N - 65) : (datP x V n).length = 512 := by
  unfold datP
  cases hx : x.wt n with
  | none => exact h.vw.b5 _ (by omega)
  | some b => exact (h.wl n b hx).2
theorem LA.readE {N : Nat} {x : Lk} {V : Nat → List UInt8} (h : LA N x V) (hN : 65 < N) (n : Int) : lreadE x n = if n < 0 ∨ ((N - 65 : Nat) : Int) ≤ n then 1 else 0 := by
  unfold lreadE
  rw [h.vw.dl, h.vw.of]
  by_cases e : n < 0 ∨ (N : Int) - 65 ≤ n
  · rw [if_pos e, if_pos (by omega)]
  · rw [if_neg e, if_neg (show ¬ (false = true) by decide), if_neg (by omega)]
theorem LA.lsync {N : Nat} {x : Lk} {V : Nat → List UInt8} (h : LA N x V) (hN : 65 < N) : ∃ d' V', lsyncP x = (0, ⟨d', fun _ => none, 0, x.op⟩) ∧ LA N ⟨d', fun _ => none, 0, x.op⟩ V' ∧ ∀ n, n < N - 65 → V' (65 + n) = datP x V n := by
  unfold lsyncP
  rw [if_neg (by simp [h.vw.of]), h.vw.dl]
  have hmem : ∀ n ∈ ksW (N - 65) x.wt, n < N - 65 ∧ ∃ b, x.wt n = some b ∧ b.length = 512 := fun n hn => by
    obtain ⟨h1, h2⟩ := mem_ksW.1 hn
    cases hx : x.wt n with
    | none => rw [hx] at h2; cases h2
    | some b => exact ⟨h1, b, rfl, (h.wl n b hx).2⟩
  have hk0 : (ksW (N - 65) fun _ => none).length ≤ 63 := by
    unfold ksW
    rw [List.filter_eq_nil_iff.2 (by simp)]
    simp
  by_cases h0 : ksW (N - 65) x.wt = []
  · rw [if_pos h0]
    refine ⟨x.d, V, rfl, ⟨h.vw, h.st, h.h0, fun n b e => (by cases e), hk0⟩, fun n hn => ?_⟩
    unfold datP
    cases hx : x.wt n with
    | none => rfl
    | some b =>
      have : n ∈ ksW (N - 65) x.wt := mem_ksW.2 ⟨hn, by rw [hx]; rfl⟩
      rw [h0] at this
      cases this
  · rw [if_neg h0]
    obtain ⟨M', d', e, hv⟩ := Ok.lsync (V := V) (f := x.wt) h.k63 hN (fun n hn => (hmem n hn).1) (fun n hn => (hmem n hn).2) 0 x.d h.vw
    have he : lsyncW (ksW (N - 65) x.wt) x.wt x.d = (0, d') := e
    rw [he, if_pos rfl]
    have hend : Vw N 0 d' (upd (homeV (upd (copiesV V (ksW (N - 65) x.wt) x.wt (ksW (N - 65) x.wt).length) 0 (headP (ksW (N - 65) x.wt))) (ksW (N - 65) x.wt) (ksW (N - 65) x.wt).length) 0 (headP [])) ∧ Stl d' := by
      unfold lsyncW at he
      have hs : ∃ q, settleW (ksW (N - 65) x.wt) q = (0, d') := by
        rw [show [copiesW (ksW (N - 65) x.wt) x.wt, syncW, wrW 0 (headP (ksW (N - 65) x.wt)), settleW (ksW (N - 65) x.wt)] = [copiesW (ksW (N - 65) x.wt) x.wt, syncW, wrW 0 (headP (ksW (N - 65) x.wt))] ++ [settleW (ksW (N - 65) x.wt)] from rfl, seqW_append] at he
        split at he
        · refine ⟨(seqW [copiesW (ksW (N - 65) x.wt) x.wt, syncW, wrW 0 (headP (ksW (N - 65) x.wt))] x.d).2, ?_⟩
          rw [seqW] at he
          split at he
          · rename_i h1 h2
            rw [seqW] at he
            exact Prod.ext h2 (by injection he)
          · exact he
        · rename_i h1
          rw [he] at h1
          exact absurd rfl h1
      obtain ⟨q, hq⟩ := hs
      exact sync_end (a := [syncW, homeW (ksW (N - 65) x.wt), syncW, wrW 0 (headP [])]) hq hv
    refine ⟨d', _, rfl, ⟨hend.1, hend.2, upd_at _ _ _, fun n b e => (by cases e), hk0⟩, fun n hn => ?_⟩
    rw [upd_ne _ _ (by omega)]
    unfold datP
    by_cases hm : n ∈ ksW (N - 65) x.wt
    · obtain ⟨i, hi, rfl⟩ := List.getElem_of_mem hm
      have e1 : (ksW (N - 65) x.wt).getD i 0 = (ksW (N - 65) x.wt)[i] := by rw [List.getD_eq_getElem?_getD, List.getElem?_eq_getElem hi]; rfl
      have := homeV_at (upd (copiesV V (ksW (N - 65) x.wt) x.wt (ksW (N - 65) x.wt).length) 0 (headP (ksW (N - 65) x.wt))) _ (ksW_nodup _ _) _ i hi (Nat.le_refl _)
      rw [e1] at this
      rw [this, upd_ne _ _ (by omega)]
      unfold copiesV
      rw [if_pos (by omega), show 1 + i - 1 = i by omega, e1]
      obtain ⟨_, b, hb, _⟩ := hmem _ hm
      rw [hb]
      rfl
    · rw [homeV_other _ _ _ _ (by rw [List.take_length]; exact hm) (Nat.le_refl _), upd_ne _ _ (by omega)]
      unfold copiesV
      have h63 := h.k63
      rw [if_neg (by omega)]
      cases hx : x.wt n with
      | none => rfl
      | some b => exact absurd (mem_ksW.2 ⟨hn, by rw [hx]; rfl⟩) hm
end Go.Proofs.Ytefbmbfhhhjgkaa
namespace Go.Proofs.Ytefbmbfhhhjgkaa
open Go.RowKit
theorem b8_val (n : Int) : ((b8 n).toNat : Int) = n % 256 := by
  unfold b8
  rw [UInt8.toNat_ofNat']
  omega
theorem numP_le16 {n : Nat} (h : n < 65536) : numP (le16 (n : Int)) = n := by
  have h0 := b8_val (n : Int)
  have h1 := b8_val ((n : Int) / 256)
  have : ((numP (le16 (n : Int)) : Nat) : Int) = n := by
    simp only [numP, le16]
    omega
  omega
theorem numsP_flat : ∀ (ns : List Nat) (r : List UInt8), (∀ n ∈ ns, n < 65536) → numsP ns.length ((ns.flatMap fun n : Nat => le16 (n : Int)) ++ r) = ns
  | [], _, _ => rfl
  | a :: l, r, h => by
    rw [List.length_cons, numsP, List.flatMap_cons, List.append_assoc]
    have h2 : (le16 (a : Int) ++ ((l.flatMap fun n : Nat => le16 (n : Int)) ++ r)).take 2 = le16 (a : Int) := List.take_left' rfl
    have h3 : (le16 (a : Int) ++ ((l.flatMap fun n : Nat => le16 (n : Int)) ++ r)).drop 2 = (l.flatMap fun n : Nat => le16 (n : Int)) ++ r := List.drop_left' rfl
    rw [h2, h3, numP_le16 (h a (by simp)), numsP_flat l r fun n hn => h n (by simp [hn])]
theorem headsP_headP {ns : List Nat} {B : Nat} (hl : ns.length ≤ 63) (hb : ∀ n ∈ ns, n < B) (hB : B ≤ 65536) : headsP (headP ns) B = some ns := by
  have e : headP ns = magicB ++ (le16 (ns.length : Int) ++ ((ns.flatMap fun n : Nat => le16 (n : Int)) ++ List.replicate (502 - 2 * ns.length) 0)) := by
    unfold headP headB
    simp only [List.append_assoc]
  have h8 : (headP ns).take 8 = magicB := by rw [e]; exact List.take_left' rfl
  have d8 : (headP ns).drop 8 = le16 (ns.length : Int) ++ ((ns.flatMap fun n : Nat => le16 (n : Int)) ++ List.replicate (502 - 2 * ns.length) 0) := by rw [e]; exact List.drop_left' rfl
  have d10 : (headP ns).drop 10 = (ns.flatMap fun n : Nat => le16 (n : Int)) ++ List.replicate (502 - 2 * ns.length) 0 := by
    rw [show (10 : Nat) = 8 + 2 from rfl, ← List.drop_drop, d8]
    exact List.drop_left' rfl
  have hn : numP (((headP ns).drop 8).take 2) = ns.length := by
    rw [d8, List.take_left' (show (le16 (ns.length : Int)).length = 2 from rfl), numP_le16 (by omega)]
  unfold headsP
  rw [if_neg (show ¬ ((headP ns).take 8 ≠ magicB) by rw [h8]; simp), hn, if_neg (show ¬ 63 < ns.length by omega), d10, numsP_flat ns _ fun n h => by have := hb n h; omega]
  rw [if_pos (List.all_eq_true.2 fun n h => by simpa using hb n h)]
theorem headsP_zblk (B : Nat) : headsP zblk B = none := by
  unfold headsP
  rw [if_pos]
  intro h
  have h1 := congrArg (fun l => l.getD 0 0) h
  have h2 : (zblk.take 8).getD 0 0 = 0 := by
    unfold zblk
    rw [List.take_replicate]
    rfl
  rw [h2] at h1
  exact absurd h1 (by decide)
theorem open_ok {N M : Nat} {d : Dk} {V : Nat → List UInt8} (h : Vw N M d V) (hN : 65 < N) (h0 : V 0 = headP []) (hB : N ≤ 65536) : openP d = (0, d) := by
  have ha : askW d = 0 := by
    unfold askW
    rw [if_neg (by rw [h.dl]; omega), if_neg (by simp [h.of])]
  unfold openP
  rw [if_neg (by simp [ha]), h.vw 0 (by omega), h0, headsP_headP (by decide) (by simp) (by rw [h.dl]; omega)]
  rfl
theorem LA.fresh {N : Nat} {d : Dk} {V : Nat → List UInt8} (hv : Vw N 0 d V) (hs : Stl d) (h0 : V 0 = headP []) : LA N (freshK d) V :=
  ⟨hv, hs, h0, fun n b e => (by cases e), by
    show (ksW _ fun _ => none).length ≤ 63
    unfold ksW
    rw [List.filter_eq_nil_iff.2 (by simp)]
    simp⟩
theorem cut_on {N M : Nat} {d : Dk} {V : Nat → List UInt8} (h : Vw N M d V) (hs : Stl d) (picks : List Int) : Vw N 0 (onD (cutD d picks)) V ∧ Stl (onD (cutD d picks)) := by
  have hwt : ∀ n, (onD (cutD d picks)).wt.getD n [] = [] := fun n => getD_replK _ n
  refine ⟨⟨?_, ?_, rfl, rfl, rfl, Nat.le_of_eq (waitP_of hwt), fun n hn => ?_, h.b5⟩, hwt⟩
  · show (List.map _ (List.range _)).length = N
    rw [List.length_map, List.length_range, h.dl]
  · show (List.replicate _ _).length = N
    rw [List.length_replicate, h.dl]
  · have e : (onD (cutD d picks)).l.getD n [] = V n := by
      show (List.map (cutB d picks) (List.range d.l.length)).getD n [] = _
      rw [h.dl, List.getD_eq_getElem?_getD, List.getElem?_map, List.getElem?_range hn]
      show cutB d picks n = _
      unfold cutB
      rw [hs n, pickB_nil, ← h.vw n hn]
      show _ = ((d.wt.getD n []).getLast?).getD (d.l.getD n [])
      rw [hs n]
      rfl
    show (((onD (cutD d picks)).wt.getD n []).getLast?).getD ((onD (cutD d picks)).l.getD n []) = _
    rw [hwt n, e]
    rfl
theorem filter_or (p q : Nat → Bool) : ∀ l : List Nat, (l.filter fun k => p k || q k).length = (l.filter q).length + ((l.filter p).filter fun k => !q k).length
  | [] => rfl
  | a :: r => by
    have ih := filter_or p q r
    cases hp : p a <;> cases hq : q a <;> simp [List.filter_cons, hp, hq] <;> simp at ih <;> omega
theorem ksW_merge (N : Nat) (f1 f2 : Nat → Option (List UInt8)) : (ksW N (mergeF f1 f2)).length = (ksW N f1).length + ((ksW N f2).filter fun k => !(f1 k).isSome).length := by
  rw [show ksW N (mergeF f1 f2) = (List.range N).filter fun k => (f2 k).isSome || (f1 k).isSome from List.filter_congr fun k _ => by
    unfold mergeF
    cases f2 k <;> simp]
  exact filter_or (fun k => (f2 k).isSome) (fun k => (f1 k).isSome) (List.range N)
theorem ksW_none (N : Nat) (f : Nat → Option (List UInt8)) : ksW N (mergeF (fun _ => none) f) = ksW N f := List.filter_congr fun k _ => by
  unfold mergeF
  cases f k <;> rfl
/-- A transaction's writes are blocks of the log. -/
structure TOk (B : Nat) (t : Tk) : Prop where
  wl : ∀ n b, t.m n = some b → n < B ∧ b.length = 512
  k63 : (ksW B t.m).length ≤ 63
theorem TOk.fresh (B : Nat) (ov : Bool) : TOk B ⟨fun _ => none, ov⟩ := ⟨fun n b e => (by cases e), by
  show (ksW _ fun _ => none).length ≤ 63
  unfold ksW
  rw [List.filter_eq_nil_iff.2 (by simp)]
  simp⟩
theorem commit_ok {N : Nat} {x : Lk} {V : Nat → List UInt8} (h : LA N x V) (hN : 65 < N) {t : Tk} (ht : TOk (N - 65) t) (ho : t.ov = false) :
    ∃ y V', commitP (N - 65) x t = (0, y, ⟨t.m, true⟩) ∧ LA N y V' ∧ (∀ n, n < N - 65 → datP y V' n = (t.m n).getD (datP x V n)) ∧ y.op = false ∧ y.pn = (if fitsP (N - 65) x t = true then x.pn + 1 else 1) ∧ (∀ n, fitsP (N - 65) x t = true → V' n = V n) := by
  unfold commitP
  rw [if_neg (show ¬ (t.ov = true) by rw [ho]; decide), if_neg (show ¬ (x.d.off = true) by rw [h.vw.of]; decide)]
  cases hf : fitsP (N - 65) x t with
  | true =>
    have hs : syncOr (N - 65) x t = (0, x) := by unfold syncOr; rw [if_pos hf]
    rw [hs, if_neg (by simp)]
    refine ⟨_, V, rfl, ⟨h.vw, h.st, h.h0, fun n b e => ?_, ?_⟩, fun n hn => ?_, rfl, rfl, fun _ _ => rfl⟩
    · show n < N - 65 ∧ _
      have e : mergeF x.wt t.m n = some b := e
      unfold mergeF at e
      cases hm : t.m n with
      | none => rw [hm] at e; exact h.wl n b e
      | some b2 => rw [hm] at e; cases e; exact ht.wl n _ hm
    · show (ksW (N - 65) (mergeF x.wt t.m)).length ≤ 63
      rw [ksW_merge]
      unfold fitsP at hf
      exact of_decide_eq_true hf
    · show (mergeF x.wt t.m n).getD _ = _
      unfold mergeF datP
      cases t.m n <;> rfl
  | false =>
    obtain ⟨d', V', e, hl, hv⟩ := h.lsync hN
    have hs : syncOr (N - 65) x t = (0, ⟨d', fun _ => none, 0, x.op⟩) := by unfold syncOr; rw [if_neg (by rw [hf]; decide)]; exact e
    rw [hs, if_neg (by simp)]
    refine ⟨_, V', rfl, ⟨hl.vw, hl.st, hl.h0, fun n b e => ?_, ?_⟩, fun n hn => ?_, rfl, rfl, fun _ h => by cases h⟩
    · have e : mergeF (fun _ => none) t.m n = some b := e
      unfold mergeF at e
      cases hm : t.m n with
      | none => rw [hm] at e; cases e
      | some b2 => rw [hm] at e; cases e; exact ht.wl n _ hm
    · show (ksW (N - 65) (mergeF (fun _ => none) t.m)).length ≤ 63
      rw [ksW_none]
      exact ht.k63
    · show (mergeF (fun _ => none) t.m n).getD (V' (65 + n)) = _
      rw [hv n hn]
      unfold mergeF
      cases t.m n <;> rfl
end Go.Proofs.Ytefbmbfhhhjgkaa
