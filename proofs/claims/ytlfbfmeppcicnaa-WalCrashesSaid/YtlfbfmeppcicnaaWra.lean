/- The log when the power goes at a Write: in plain words (Tr, Rep, lsyncP_tr, formatP_tr, open_rep), and in a caller's hands (LG, DG). -/
import Derived.Test.YtlfbfmeppcicnaaWle
namespace Go.Proofs.Ytlfbfmeppcicnaa
open Go.RowKit
/-- A disk with power: its blocks read V; block n may be found as any b with A n b, were it cut now. -/
structure Pq (N : Nat) (V : Nat → List UInt8) (A : Nat → List UInt8 → Prop) (d : Dk) : Prop where
  dl : d.l.length = N
  wl : d.wt.length = N
  of : d.off = false
  vw : ∀ n, n < N → lastP d n = V n
  b5 : ∀ n, n < N → (V n).length = 512
  ps : ∀ n, n < N → ∀ b, b ∈ d.l.getD n [] :: d.wt.getD n [] → A n b
/-- A disk that was cut: what its blocks are. -/
structure Cq (N : Nat) (C : (Nat → List UInt8) → Prop) (d : Dk) : Prop where
  dl : d.l.length = N
  off : d.off = true
  st : Stl d
  wl : d.wt.length = N
  at_ : ∃ L, C L ∧ ∀ n, n < N → d.l.getD n [] = L n
theorem Pq.mono {N : Nat} {V V' : Nat → List UInt8} {A A' : Nat → List UInt8 → Prop} {d : Dk} (h : Pq N V A d) (hv : ∀ n, n < N → V n = V' n) (ha : ∀ n, n < N → ∀ b, A n b → A' n b) : Pq N V' A' d :=
  ⟨h.dl, h.wl, h.of, fun n hn => (h.vw n hn).trans (hv n hn), fun n hn => hv n hn ▸ h.b5 n hn, fun n hn b hb => ha n hn b (h.ps n hn b hb)⟩
theorem Cq.mono {N : Nat} {C C' : (Nat → List UInt8) → Prop} {d : Dk} (h : Cq N C d) (hc : ∀ L, C L → C' L) : Cq N C' d := by
  obtain ⟨L, h1, h2⟩ := h.at_
  exact ⟨h.dl, h.off, h.st, h.wl, L, hc L h1, h2⟩
/-- What step f makes of such disks: it goes well, or the power went and C holds of what is found. -/
def Tr (N : Nat) (f : DW) (V : Nat → List UInt8) (A : Nat → List UInt8 → Prop) (V' : Nat → List UInt8) (A' : Nat → List UInt8 → Prop) (C : (Nat → List UInt8) → Prop) : Prop :=
  ∀ d, Pq N V A d → ((f d).1 = 0 ∧ Pq N V' A' (f d).2) ∨ ((f d).1 = 6 ∧ Cq N C (f d).2)
theorem pickB_mem (b : List UInt8) (vs : List (List UInt8)) (p : Int) : pickB b vs p ∈ b :: vs := by
  unfold pickB
  split
  · exact List.mem_cons_self
  · rename_i k _
    rw [List.getD_eq_getElem?_getD]
    rcases Nat.lt_or_ge k vs.length with h | h
    · rw [List.getElem?_eq_getElem h]
      exact List.mem_cons_of_mem _ (List.getElem_mem h)
    · rw [List.getElem?_eq_none h]
      exact List.mem_cons_self
namespace Tr
variable {N : Nat} {V V' V1 : Nat → List UInt8} {A A' A1 : Nat → List UInt8 → Prop} {C C' : (Nat → List UInt8) → Prop} {f : DW}
theorem mono (h : Tr N f V A V' A' C) {V2 : Nat → List UInt8} {A2 : Nat → List UInt8 → Prop} {C2 : (Nat → List UInt8) → Prop} (hv : ∀ n, n < N → V' n = V2 n) (ha : ∀ n, n < N → ∀ b, A' n b → A2 n b) (hc : ∀ L, C L → C2 L) : Tr N f V A V2 A2 C2 := fun d hd => by
  rcases h d hd with ⟨h1, h2⟩ | ⟨h1, h2⟩
  · exact .inl ⟨h1, h2.mono hv ha⟩
  · exact .inr ⟨h1, h2.mono hc⟩
theorem from_ (h : Tr N f V A V' A' C) {V0 : Nat → List UInt8} {A0 : Nat → List UInt8 → Prop} (hv : ∀ n, n < N → V0 n = V n) (ha : ∀ n, n < N → ∀ b, A0 n b → A n b) : Tr N f V0 A0 V' A' C := fun d hd => h d (hd.mono hv ha)
theorem write {n : Nat} (hn : n < N) {b : List UInt8} (hb : b.length = 512) : Tr N (wrW (n : Int) b) V A (upd V n b) (fun k x => A k x ∨ (k = n ∧ x = b)) (fun L => ∀ k, k < N → A k (L k)) := fun d h => by
  have h0 : askP d (n : Int) = 0 := by
    unfold askP
    rw [if_neg (by simp [h.of]), if_neg (by rw [h.dl]; omega)]
  unfold wrW writeP
  rw [if_neg (by simp [h0]), if_neg (by simp [hb])]
  by_cases ha : d.arm = 1
  · rw [if_pos ha]
    refine .inr ⟨rfl, ?_, rfl, fun n => getD_replK _ n, ?_, fun k => (cutD (armed d 0) d.picks).l.getD k [], fun k hk => ?_, fun k hk => rfl⟩
    · show (List.map _ (List.range _)).length = N
      rw [List.length_map, List.length_range]
      exact h.dl
    · show (List.replicate _ _).length = N
      rw [List.length_replicate]
      exact h.dl
    · apply h.ps k hk
      have e : (cutD (armed d 0) d.picks).l.getD k [] = cutB (armed d 0) d.picks k := by
        show (List.map (cutB (armed d 0) d.picks) (List.range d.l.length)).getD k [] = _
        rw [h.dl, List.getD_eq_getElem?_getD, List.getElem?_map, List.getElem?_range hk]
        rfl
      show (cutD (armed d 0) d.picks).l.getD k [] ∈ _
      rw [e]
      exact pickB_mem _ _ _
  · rw [if_neg ha, Int.toNat_natCast]
    have hwl : n < d.wt.length := by rw [h.wl]; exact hn
    refine .inl ⟨rfl, h.dl, ?_, h.of, fun k hk => ?_, fun k hk => ?_, fun k hk x hx => ?_⟩
    · show (List.set _ _ _).length = N
      rw [List.length_set]
      exact h.wl
    · show lastP (addD (armed d (if 0 < d.arm then d.arm - 1 else d.arm)) n b) k = _
      rw [lastP_add (d := armed d (if 0 < d.arm then d.arm - 1 else d.arm)) hwl]
      unfold upd
      rw [show lastP (armed d (if 0 < d.arm then d.arm - 1 else d.arm)) k = lastP d k from rfl, h.vw k hk]
    · unfold upd
      split
      · exact hb
      · exact h.b5 k hk
    · have hx : x ∈ d.l.getD k [] :: (d.wt.set n (d.wt.getD n [] ++ [b])).getD k [] := hx
      rcases List.mem_cons.1 hx with e | hx
      · exact .inl (h.ps k hk x (by rw [e]; exact List.mem_cons_self))
      · rw [List.getD_eq_getElem?_getD] at hx
        by_cases e : k = n
        · subst e
          rw [List.getElem?_set_self hwl] at hx
          have hx : x ∈ d.wt.getD k [] ++ [b] := hx
          rcases List.mem_append.1 hx with h1 | h1
          · exact .inl (h.ps k hk x (List.mem_cons_of_mem _ h1))
          · exact .inr ⟨rfl, List.mem_singleton.1 h1⟩
        · rw [List.getElem?_set_ne (fun h => e h.symm), ← List.getD_eq_getElem?_getD] at hx
          exact .inl (h.ps k hk x (List.mem_cons_of_mem _ hx))
theorem sync : Tr N syncW V A V (fun k x => x = V k) C := fun d h => by
  have hwt : ∀ n, (syncD d).wt.getD n [] = [] := fun n => getD_replK _ n
  have hl : ∀ n, n < N → (syncD d).l.getD n [] = V n := fun n hn => by
    show (List.map (lastP d) (List.range d.l.length)).getD n [] = _
    rw [h.dl, List.getD_eq_getElem?_getD, List.getElem?_map, List.getElem?_range hn]
    exact h.vw n hn
  unfold syncW
  rw [if_neg (by simp [h.of])]
  refine .inl ⟨rfl, ?_, ?_, h.of, fun n hn => ?_, h.b5, fun n hn b hb => ?_⟩
  · show (List.map _ (List.range _)).length = N
    rw [List.length_map, List.length_range, h.dl]
  · show (List.replicate _ _).length = N
    rw [List.length_replicate, h.dl]
  · show (((syncD d).wt.getD n []).getLast?).getD ((syncD d).l.getD n []) = _
    rw [hwt n, hl n hn]
    rfl
  · have hb : b ∈ (syncD d).l.getD n [] :: (syncD d).wt.getD n [] := hb
    rw [hwt n, hl n hn] at hb
    exact List.mem_singleton.1 hb
theorem nil : Tr N (seqW []) V A V A C := fun d h => .inl ⟨rfl, h⟩
theorem cons {r : List DW} (h : Tr N f V A V1 A1 C) (h2 : Tr N (seqW r) V1 A1 V' A' C) : Tr N (seqW (f :: r)) V A V' A' C := fun d hd => by
  rcases h d hd with ⟨e1, hd1⟩ | ⟨e1, hc⟩
  · rw [seqW_step e1]
    exact h2 _ hd1
  · rw [seqW_stop (by rw [e1]; decide)]
    exact .inr ⟨e1, hc⟩
theorem seqs {fs : List DW} {Vs : Nat → Nat → List UInt8} {As : Nat → Nat → List UInt8 → Prop} (h : ∀ i (hi : i < fs.length), Tr N (fs[i]'hi) (Vs i) (As i) (Vs (i + 1)) (As (i + 1)) C) : Tr N (seqW fs) (Vs 0) (As 0) (Vs fs.length) (As fs.length) C := by
  induction fs generalizing Vs As with
  | nil => exact nil
  | cons f r ih =>
    refine cons (h 0 (by simp)) ?_
    have := ih (Vs := fun i => Vs (i + 1)) (As := fun i => As (i + 1)) (fun i hi => h (i + 1) (by simp; omega))
    exact this
theorem maps {K : Nat} {g : Nat → DW} {Vs : Nat → Nat → List UInt8} {As : Nat → Nat → List UInt8 → Prop} (h : ∀ i, i < K → Tr N (g i) (Vs i) (As i) (Vs (i + 1)) (As (i + 1)) C) : Tr N (seqW ((List.range K).map g)) (Vs 0) (As 0) (Vs K) (As K) C := by
  have := seqs (N := N) (C := C) (fs := (List.range K).map g) (Vs := Vs) (As := As) (fun i hi => by
    simp at hi
    rw [List.getElem_map, List.getElem_range]
    exact h i hi)
  simpa using this
theorem copy {i j : Nat} (hi : i < N) (hj : j < N) (hb : (V i).length = 512) : Tr N (copyW (i : Int) (j : Int)) V A (upd V j (V i)) (fun k x => A k x ∨ (k = j ∧ x = V i)) (fun L => ∀ k, k < N → A k (L k)) := fun d h => by
  have h0 : askP d (i : Int) = 0 := by
    unfold askP
    rw [if_neg (by simp [h.of]), if_neg (by rw [h.dl]; omega)]
  unfold copyW
  rw [if_neg (by simp [h0]), Int.toNat_natCast, h.vw i hi]
  exact write hj hb d h
theorem clean {n : Nat} (hn : n < N) : Tr N (cleanS n) V A (upd V n zblk) (fun k x => A k x ∨ (k = n ∧ x = zblk)) (fun L => ∀ k, k < N → A k (L k)) := fun d h => by
  have h0 : askP d (n : Int) = 0 := by
    unfold askP
    rw [if_neg (by simp [h.of]), if_neg (by rw [h.dl]; omega)]
  unfold cleanS
  rw [if_neg (by simp [h0])]
  by_cases e : lastP d n = zblk
  · rw [if_pos e]
    refine .inl ⟨rfl, h.mono (fun k hk => ?_) (fun k _ b hb => .inl hb)⟩
    unfold upd
    split
    · rename_i e2
      subst e2
      rw [← h.vw k hk, e]
    · rfl
  · rw [if_neg e]
    exact write hn zblk_len d h
end Tr
/-- What disk L holds: blocks D, behind an opening. -/
def Rep (N : Nat) (L : Nat → List UInt8) (D : Nat → List UInt8) : Prop :=
  ∃ ns : List Nat, ns.length ≤ 63 ∧ ns.Nodup ∧ (∀ n ∈ ns, n < N - 65) ∧ L 0 = headP ns ∧ (∀ i, i < ns.length → L (1 + i) = D (ns.getD i 0)) ∧ ∀ n, n < N - 65 → n ∉ ns → L (65 + n) = D n
/-- Blocks that settle: an empty first block, data D. -/
def HomeOk (N : Nat) (V D : Nat → List UInt8) : Prop := V 0 = headP [] ∧ ∀ n, n < N - 65 → V (65 + n) = D n
theorem HomeOk.rep {N : Nat} {V D : Nat → List UInt8} (h : HomeOk N V D) : Rep N V D := ⟨[], by simp, List.nodup_nil, by simp, h.1, fun i hi => by simp at hi, fun n hn _ => h.2 n hn⟩
/-- Settling from a disk that holds D: D settled, or cut while it holds D. -/
theorem settle_tr {N : Nat} {V D : Nat → List UInt8} {ns : List Nat} {A : Nat → List UInt8 → Prop} (hN : 65 < N) (hl : ns.length ≤ 63) (hnd : ns.Nodup) (hn : ∀ n ∈ ns, n < N - 65) (h0 : V 0 = headP ns) (hc : ∀ i, i < ns.length → V (1 + i) = D (ns.getD i 0)) (hd : ∀ n, n < N - 65 → n ∉ ns → V (65 + n) = D n) (h5 : ∀ n, n < N → (V n).length = 512) :
    ∃ V', Tr N (settleW ns) V A V' (fun k x => x = V' k) (fun L => Rep N L D) ∧ HomeOk N V' D := by
  have hgd : ∀ i, i < ns.length → ns.getD i 0 < N - 65 ∧ ns.getD i 0 ∈ ns := fun i hi => by
    rw [List.getD_eq_getElem?_getD, List.getElem?_eq_getElem hi]
    exact ⟨hn _ (List.getElem_mem hi), List.getElem_mem hi⟩
  have hend : HomeOk N (upd (homeV V ns ns.length) 0 (headP [])) D := by
    refine ⟨upd_at _ _ _, fun n h1 => ?_⟩
    rw [upd_ne _ _ (by omega)]
    by_cases hm : n ∈ ns
    · obtain ⟨i, hi, rfl⟩ := List.getElem_of_mem hm
      have e1 : ns.getD i 0 = ns[i] := by rw [List.getD_eq_getElem?_getD, List.getElem?_eq_getElem hi]; rfl
      have := homeV_at V ns hnd _ i hi (Nat.le_refl _)
      rw [e1] at this
      rw [this, hc i hi, e1]
    · rw [homeV_other V ns _ _ (by rw [List.take_length]; exact hm) (Nat.le_refl _)]
      exact hd n h1 hm
  refine ⟨_, Tr.cons Tr.sync (Tr.cons (V1 := homeV V ns ns.length) (A1 := fun k x => x = V k ∨ (65 ≤ k ∧ (k - 65) ∈ ns)) ?_ (Tr.cons Tr.sync (Tr.cons (V1 := upd (homeV V ns ns.length) 0 (headP [])) (A1 := fun _ _ => True) ?_ (Tr.cons Tr.sync Tr.nil)))), hend⟩
  · have hm := Tr.maps (N := N) (K := ns.length) (g := fun i => copyW ((1 + i : Nat) : Int) ((65 + ns.getD i 0 : Nat) : Int)) (Vs := homeV V ns) (As := fun _ k x => x = V k ∨ (65 ≤ k ∧ (k - 65) ∈ ns)) (C := fun L => Rep N L D) (fun i hi => by
      have h1 := hgd i hi
      have e := homeV_low V ns i (1 + i) (by omega)
      refine (Tr.copy (V := homeV V ns i) (A := fun k x => x = V k ∨ (65 ≤ k ∧ (k - 65) ∈ ns)) (i := 1 + i) (j := 65 + ns.getD i 0) (by omega) (by omega) (by rw [e]; exact h5 _ (by omega))).mono (fun k _ => by rw [e]; rfl) (fun k _ b hb => ?_) (fun L hL => ?_)
      · rcases hb with hb | ⟨rfl, _⟩
        · exact hb
        · exact .inr ⟨by omega, by rw [Nat.add_sub_cancel_left]; exact h1.2⟩
      · refine ⟨ns, hl, hnd, hn, ?_, fun j hj => ?_, fun n h1 h2 => ?_⟩
        · rcases hL 0 (by omega) with h | h
          · rw [h, h0]
          · omega
        · rcases hL (1 + j) (by omega) with h | h
          · rw [h, hc j hj]
          · omega
        · rcases hL (65 + n) (by omega) with h | ⟨_, h⟩
          · rw [h, hd n h1 h2]
          · rw [Nat.add_sub_cancel_left] at h
            exact absurd h h2)
    exact hm.from_ (fun _ _ => rfl) (fun k _ b hb => .inl hb)
  · refine (Tr.write (n := 0) (by omega) (headP_len (by decide))).mono (fun _ _ => rfl) (fun _ _ _ _ => trivial) (fun L hL => ?_)
    refine ⟨ns, hl, hnd, hn, ?_, fun j hj => ?_, fun n h1 h2 => ?_⟩
    · rw [hL 0 (by omega), homeV_low _ _ _ _ (by omega), h0]
    · rw [hL (1 + j) (by omega), homeV_low _ _ _ _ (by omega), hc j hj]
    · rw [hL (65 + n) (by omega), homeV_other V ns _ _ (by rw [List.take_length]; exact h2) (Nat.le_refl _), hd n h1 h2]
theorem Pq.of_vw {N : Nat} {V : Nat → List UInt8} {d : Dk} (h : Vw N 0 d V) (hs : Stl d) : Pq N V (fun k x => x = V k) d := by
  refine ⟨h.dl, h.wl, h.of, h.vw, h.b5, fun n hn b hb => ?_⟩
  rw [hs n] at hb
  rw [List.mem_singleton.1 hb, ← h.vw n hn]
  show _ = ((d.wt.getD n []).getLast?).getD (d.l.getD n [])
  rw [hs n]
  rfl
theorem Pq.arm {N : Nat} {V : Nat → List UInt8} {A : Nat → List UInt8 → Prop} {d : Dk} (h : Pq N V A d) (n : Int) (p : List Int) : Pq N V A (armD d n p) := ⟨h.dl, h.wl, h.of, h.vw, h.b5, h.ps⟩
/-- Synced, then cut, on again. -/
theorem Pq.cut_on {N : Nat} {V : Nat → List UInt8} {d : Dk} (h : Pq N V (fun k x => x = V k) d) (picks : List Int) : Vw N 0 (onD (cutD d picks)) V ∧ Stl (onD (cutD d picks)) := by
  have hwt : ∀ n, (onD (cutD d picks)).wt.getD n [] = [] := fun n => getD_replK _ n
  refine ⟨⟨?_, ?_, rfl, rfl, rfl, Nat.le_of_eq (waitP_of hwt), fun n hn => ?_, h.b5⟩, hwt⟩
  · show (List.map _ (List.range _)).length = N
    rw [List.length_map, List.length_range, h.dl]
  · show (List.replicate _ _).length = N
    rw [List.length_replicate, h.dl]
  · have e : (onD (cutD d picks)).l.getD n [] = V n := by
      show (List.map (cutB d picks) (List.range d.l.length)).getD n [] = _
      rw [h.dl, List.getD_eq_getElem?_getD, List.getElem?_map, List.getElem?_range hn]
      show cutB d picks n = _
      exact h.ps n hn _ (pickB_mem _ _ _)
    show (((onD (cutD d picks)).wt.getD n []).getLast?).getD ((onD (cutD d picks)).l.getD n []) = _
    rw [hwt n, e]
    rfl
/-- Cut at a Write, on again. -/
theorem Cq.on_ {N : Nat} {C : (Nat → List UInt8) → Prop} {d : Dk} (h : Cq N C d) (h5 : ∀ n, n < N → (lastP d n).length = 512) : ∃ L, C L ∧ Vw N 0 (onD d) L ∧ Stl (onD d) := by
  obtain ⟨L, h1, h2⟩ := h.at_
  have e : ∀ n, n < N → lastP d n = L n := fun n hn => by
    show ((d.wt.getD n []).getLast?).getD (d.l.getD n []) = _
    rw [h.st n, h2 n hn]
    rfl
  exact ⟨L, h1, ⟨h.dl, h.wl, rfl, rfl, rfl, Nat.le_of_eq (waitP_of h.st), e, fun n hn => by rw [← e n hn]; exact h5 n hn⟩, h.st⟩
/-- A Sync from settled blocks: they are as committed, or cut while they are the elder, or the new. -/
theorem lsync_tr {N : Nat} {V : Nat → List UInt8} {ns : List Nat} {f : Nat → Option (List UInt8)} (hN : 65 < N) (hl : ns.length ≤ 63) (hnd : ns.Nodup) (hn : ∀ n ∈ ns, n < N - 65) (hf : ∀ n ∈ ns, ∃ b, f n = some b ∧ b.length = 512) (ho : ∀ n, n < N - 65 → n ∉ ns → f n = none) (h0 : V 0 = headP []) (h5 : ∀ n, n < N → (V n).length = 512) :
    ∃ V', Tr N (lsyncW ns f) V (fun k x => x = V k) V' (fun k x => x = V' k) (fun L => Rep N L (fun n => V (65 + n)) ∨ Rep N L (fun n => (f n).getD (V (65 + n)))) ∧ HomeOk N V' (fun n => (f n).getD (V (65 + n))) := by
  have hgd : ∀ i, i < ns.length → ∃ b, f (ns.getD i 0) = some b ∧ b.length = 512 := fun i hi => hf _ (by
    rw [List.getD_eq_getElem?_getD, List.getElem?_eq_getElem hi]
    exact List.getElem_mem hi)
  have hhi : ∀ k, ¬ (1 ≤ k ∧ k ≤ ns.length) → copiesV V ns f ns.length k = V k := fun k hk => by unfold copiesV; rw [if_neg hk]
  have hlo : ∀ i, i < ns.length → copiesV V ns f ns.length (1 + i) = (f (ns.getD i 0)).getD [] := fun i hi => by
    unfold copiesV
    rw [if_pos (by omega), Nat.add_sub_cancel_left]
  have h15 : ∀ n, n < N → (copiesV V ns f ns.length n).length = 512 := fun n hn => by
    by_cases h : 1 ≤ n ∧ n ≤ ns.length
    · obtain ⟨b, e1, e2⟩ := hgd (n - 1) (by omega)
      have := hlo (n - 1) (by omega)
      rw [show 1 + (n - 1) = n by omega] at this
      rw [this, e1]
      exact e2
    · rw [hhi n h]; exact h5 n hn
  obtain ⟨V', hs, hh⟩ := settle_tr (N := N) (V := upd (copiesV V ns f ns.length) 0 (headP ns)) (D := fun n => (f n).getD (V (65 + n))) (A := fun k x => x = copiesV V ns f ns.length k ∨ (k = 0 ∧ x = headP ns)) hN hl hnd hn (upd_at _ _ _)
    (fun i hi => by
      obtain ⟨b, e1, e2⟩ := hgd i hi
      rw [upd_ne _ _ (by omega), hlo i hi, e1]
      rfl)
    (fun n h1 h2 => by
      rw [upd_ne _ _ (by omega), hhi _ (by omega), ho n h1 h2]
      rfl)
    (fun n h1 => by
      unfold upd
      split
      · exact headP_len hl
      · exact h15 n h1)
  refine ⟨V', Tr.cons (V1 := copiesV V ns f ns.length) (A1 := fun k x => x = V k ∨ (1 ≤ k ∧ k ≤ 63)) ?_ (Tr.cons Tr.sync (Tr.cons (V1 := upd (copiesV V ns f ns.length) 0 (headP ns)) (A1 := fun k x => x = copiesV V ns f ns.length k ∨ (k = 0 ∧ x = headP ns)) ?_ (Tr.cons (hs.mono (fun _ _ => rfl) (fun _ _ _ h => h) (fun _ h => .inr h)) Tr.nil))), hh⟩
  · have hm := Tr.maps (N := N) (K := ns.length) (g := fun i => wrW ((1 + i : Nat) : Int) ((f (ns.getD i 0)).getD [])) (Vs := copiesV V ns f) (As := fun _ k x => x = V k ∨ (1 ≤ k ∧ k ≤ 63)) (C := fun L => Rep N L (fun n => V (65 + n)) ∨ Rep N L (fun n => (f n).getD (V (65 + n)))) (fun i hi => by
      obtain ⟨b, e1, e2⟩ := hgd i hi
      rw [e1]
      refine (Tr.write (V := copiesV V ns f i) (A := fun k x => x = V k ∨ (1 ≤ k ∧ k ≤ 63)) (n := 1 + i) (by omega) (b := b) e2).mono (fun k _ => ?_) (fun k _ x hx => ?_) (fun L hL => .inl (HomeOk.rep ⟨?_, fun n hn => ?_⟩))
      · unfold upd copiesV
        by_cases e : k = 1 + i
        · rw [if_pos e, if_pos (by omega), show k - 1 = i by omega, e1]
          rfl
        · rw [if_neg e]
          by_cases e3 : 1 ≤ k ∧ k ≤ i
          · rw [if_pos e3, if_pos (by omega)]
          · rw [if_neg e3, if_neg (by omega)]
      · rcases hx with hx | ⟨rfl, _⟩
        · exact hx
        · exact .inr ⟨by omega, by omega⟩
      · rcases hL 0 (by omega) with h | h
        · rw [h, h0]
        · omega
      · rcases hL (65 + n) (by omega) with h | h
        · exact h
        · omega)
    exact hm.from_ (fun k _ => by unfold copiesV; rw [if_neg (by omega)]) (fun k _ b hb => .inl hb)
  · refine (Tr.write (n := 0) (by omega) (headP_len hl)).mono (fun _ _ => rfl) (fun k _ x hx => hx) (fun L hL => .inl (HomeOk.rep ⟨?_, fun n hn => ?_⟩))
    · rw [hL 0 (by omega), hhi _ (by omega), h0]
    · rw [hL (65 + n) (by omega), hhi _ (by omega)]
theorem lsyncP_tr {N : Nat} {x : Lk} {V : Nat → List UInt8} (h : LA N x V) (hN : 65 < N) {d : Dk} (hd : Pq N V (fun k b => b = V k) d) :
    (∃ V', (lsyncP ⟨d, x.wt, x.pn, x.op⟩).1 = 0 ∧ Pq N V' (fun k b => b = V' k) (lsyncP ⟨d, x.wt, x.pn, x.op⟩).2.d ∧ HomeOk N V' (datP x V)) ∨
    ((lsyncP ⟨d, x.wt, x.pn, x.op⟩).1 = 6 ∧ Cq N (fun L => Rep N L (fun n => V (65 + n)) ∨ Rep N L (datP x V)) (lsyncP ⟨d, x.wt, x.pn, x.op⟩).2.d) := by
  unfold lsyncP
  dsimp only
  rw [if_neg (by simp [hd.of]), hd.dl]
  by_cases hk : ksW (N - 65) x.wt = []
  · rw [if_pos hk]
    refine .inl ⟨V, rfl, hd, h.h0, fun n hn => ?_⟩
    unfold datP
    cases hx : x.wt n with
    | none => rfl
    | some b =>
      have : n ∈ ksW (N - 65) x.wt := mem_ksW.2 ⟨hn, by rw [hx]; rfl⟩
      rw [hk] at this
      cases this
  · rw [if_neg hk]
    obtain ⟨V', ht, hh⟩ := lsync_tr (N := N) (V := V) (ns := ksW (N - 65) x.wt) (f := x.wt) hN h.k63 (List.nodup_range.sublist List.filter_sublist) (fun n hn => (mem_ksW.1 hn).1) (fun n hn => by
      obtain ⟨h1, h2⟩ := mem_ksW.1 hn
      cases hx : x.wt n with
      | none => rw [hx] at h2; cases h2
      | some b => exact ⟨b, rfl, (h.wl n b hx).2⟩) (fun n hn hm => by
      cases hx : x.wt n with
      | none => rfl
      | some b => exact absurd (mem_ksW.2 ⟨hn, by rw [hx]; rfl⟩) hm) h.h0 h.vw.b5
    rcases ht d hd with ⟨e, hp⟩ | ⟨e, hc⟩
    · rw [if_pos e]
      exact .inl ⟨V', rfl, hp, hh⟩
    · rw [if_neg (by rw [e]; decide)]
      exact .inr ⟨e, hc⟩
/-- A Format from settled blocks: cut while they are the elder, or while there is no log. -/
theorem format_tr {N : Nat} {V E : Nat → List UInt8} (hN : 65 < N) (h : HomeOk N V E) : Tr N (formatW N) V (fun k x => x = V k) fmtV (fun k x => x = fmtV k) (fun L => Rep N L E ∨ L 0 = zblk) := by
  have e4 : ∀ n, n < N → upd (fun k => if k < N then zblk else upd V 0 zblk k) 0 (headP []) n = fmtV n := fun n hn => by
    unfold upd fmtV
    by_cases e : n = 0
    · rw [if_pos e, if_pos e]
    · rw [if_neg e, if_neg e]; exact if_pos hn
  refine (Tr.cons (V1 := upd V 0 zblk) (A1 := fun k x => x = V k ∨ (k = 0 ∧ x = zblk)) ?_ (Tr.cons Tr.sync (Tr.cons (V1 := fun k => if k < N then zblk else upd V 0 zblk k) (A1 := fun k x => x = upd V 0 zblk k ∨ x = zblk) ?_ (Tr.cons Tr.sync (Tr.cons (V1 := upd (fun k => if k < N then zblk else upd V 0 zblk k) 0 (headP [])) (A1 := fun _ _ => True) ?_ (Tr.cons Tr.sync Tr.nil)))))).mono e4 (fun k hk x hx => hx.trans (e4 k hk)) (fun _ h => h)
  · refine (Tr.write (n := 0) (by omega) zblk_len).mono (fun _ _ => rfl) (fun k _ x hx => hx) (fun L hL => .inl (HomeOk.rep ⟨?_, fun n hn => ?_⟩))
    · rw [hL 0 (by omega), h.1]
    · rw [hL (65 + n) (by omega), h.2 n hn]
  · have hm := Tr.maps (N := N) (K := N) (g := cleanS) (Vs := fun i k => if k < i then zblk else upd V 0 zblk k) (As := fun _ k x => x = upd V 0 zblk k ∨ x = zblk) (C := fun L => Rep N L E ∨ L 0 = zblk) (fun i hi => by
      refine (Tr.clean (V := fun k => if k < i then zblk else upd V 0 zblk k) (A := fun k x => x = upd V 0 zblk k ∨ x = zblk) hi).mono (fun k _ => ?_) (fun k _ x hx => ?_) (fun L hL => .inr ?_)
      · show (if k = i then zblk else if k < i then zblk else upd V 0 zblk k) = if k < i + 1 then zblk else upd V 0 zblk k
        by_cases e : k = i
        · subst e; rw [if_pos rfl, if_pos (by omega)]
        · rw [if_neg e]
          by_cases e2 : k < i
          · rw [if_pos e2, if_pos (by omega)]
          · rw [if_neg e2, if_neg (by omega)]
      · rcases hx with hx | ⟨_, hx⟩
        · exact hx
        · exact .inr hx
      · rcases hL 0 (by omega) with h | h
        · rw [h]; exact upd_at _ _ _
        · exact h)
    exact hm.from_ (fun k _ => by rw [if_neg (by omega)]) (fun k _ b hb => .inl hb)
  · refine (Tr.write (n := 0) (by omega) (headP_len (by decide))).mono (fun _ _ => rfl) (fun _ _ _ _ => trivial) (fun L hL => .inr ?_)
    rw [hL 0 (by omega), if_pos (by omega)]
theorem formatP_tr {N : Nat} {V E : Nat → List UInt8} (hN : 65 < N) (h : HomeOk N V E) {d : Dk} (hd : Pq N V (fun k x => x = V k) d) :
    ((formatP d).1 = 0 ∧ Pq N fmtV (fun k x => x = fmtV k) (formatP d).2) ∨ ((formatP d).1 = 6 ∧ Cq N (fun L => Rep N L E ∨ L 0 = zblk) (formatP d).2) := by
  have ha : askW d = 0 := by
    unfold askW
    rw [if_neg (by rw [hd.dl]; omega), if_neg (by simp [hd.of])]
  unfold formatP
  rw [if_neg (by simp [ha]), hd.dl]
  exact format_tr hN h d hd
/-- An Opening of what holds D. -/
theorem open_rep {N : Nat} {d : Dk} {L D : Nat → List UInt8} (h : Vw N 0 d L) (hs : Stl d) (hN : 65 < N) (hB : N ≤ 65536) (hr : Rep N L D) : ∃ d' V', openP d = (0, d') ∧ Vw N 0 d' V' ∧ Stl d' ∧ HomeOk N V' D := by
  obtain ⟨ns, r1, r2, r3, r4, r5, r6⟩ := hr
  have ha : askW d = 0 := by
    unfold askW
    rw [if_neg (by rw [h.dl]; omega), if_neg (by simp [h.of])]
  unfold openP
  rw [if_neg (by simp [ha]), h.vw 0 (by omega), r4, headsP_headP r1 (by rw [h.dl]; exact r3) (by rw [h.dl]; omega)]
  dsimp only
  by_cases hn : ns = []
  · rw [if_pos hn]
    subst hn
    exact ⟨d, L, rfl, h, hs, r4, fun n hn => r6 n hn (by simp)⟩
  · rw [if_neg hn]
    obtain ⟨M', d', e, hv⟩ := Ok.settle r1 hN r3 0 d h
    obtain ⟨V', ht, hh⟩ := settle_tr (A := fun k x => x = L k) hN r1 r2 r3 r4 r5 r6 h.b5
    obtain ⟨hv2, hs2⟩ := sync_end (a := [syncW, homeW ns, syncW, wrW 0 (headP [])]) e hv
    rcases ht d (Pq.of_vw h hs) with ⟨_, hp⟩ | ⟨e2, _⟩
    · rw [e] at hp
      exact ⟨d', V', e, ⟨hv2.dl, hv2.wl, hv2.of, hv2.ar, hv2.pk, hv2.wt, hp.vw, hp.b5⟩, hs2, hh⟩
    · rw [e] at e2
      cases e2
theorem open_none {N : Nat} {d : Dk} {L : Nat → List UInt8} (h : Vw N 0 d L) (hN : 65 < N) (h0 : L 0 = zblk) : openP d = (3, d) := by
  have ha : askW d = 0 := by
    unfold askW
    rw [if_neg (by rw [h.dl]; omega), if_neg (by simp [h.of])]
  unfold openP
  rw [if_neg (by simp [ha]), h.vw 0 (by omega), h0, headsP_zblk]
theorem ksW_put (m : Nat → Option (List UInt8)) {k : Nat} (hk : k < 70) (b : List UInt8) : (ksW 70 fun j => if j = k then some b else m j).length ≤ (ksW 70 m).length + 1 := by
  have := filter_one (l := List.range 70) List.nodup_range (k := k) (List.mem_range.2 hk) (p := fun j => (m j).isSome && !(j == k)) (p' := fun j => (if j = k then some b else m j).isSome) (by simp) (fun j hj => by
    have : (j == k) = false := beq_eq_false_iff_ne.2 hj
    simp [hj, this])
  unfold ksW
  rw [this, if_pos (by simp)]
  refine Nat.add_le_add_right ?_ 1
  rw [← List.countP_eq_length_filter, ← List.countP_eq_length_filter]
  exact List.countP_mono_left fun x _ h => by simp at h; exact h.1
/-- The transaction has written at most j blocks. -/
structure TR (j : Nat) (t : Tk) : Prop where
  ov : t.ov = false
  cnt : (ksW 70 t.m).length ≤ j
theorem TR.new : TR 0 ⟨fun _ => none, false⟩ := ⟨rfl, by simp [ksW]⟩
theorem TR.put {j n : Nat} {t : Tk} {zb : List UInt8} (h : TR j t) (hj : j < 63) (hn : n < 70) (hz : zb.length = 512) :
    (twriteP 70 t (n : Int) zb).1 = 0 ∧ TR (j + 1) (twriteP 70 t (n : Int) zb).2 ∧ ∀ m, (twriteP 70 t (n : Int) zb).2.m m = if m = n then some zb else t.m m := by
  have e : twriteE 70 t (n : Int) zb = 0 := by
    unfold twriteE
    rw [if_neg (by omega), if_neg (by simp [h.ov]), if_neg]
    rintro ⟨_, h2⟩
    have := h.cnt
    omega
  unfold twriteP
  rw [e]
  refine ⟨rfl, ⟨h.ov, ?_⟩, fun m => ?_⟩
  · have e3 : (Int.toNat (n : Int)) = n := Int.toNat_natCast n
    show (ksW 70 fun j => if j = Int.toNat (n : Int) then some zb else t.m j).length ≤ _
    rw [e3]
    exact Nat.le_trans (ksW_put t.m hn zb) (Nat.add_le_add_right h.cnt 1)
  · show (if m = Int.toNat (n : Int) then some zb else t.m m) = _
    rw [Int.toNat_natCast]
/-- The disk of a log is written by itself. -/
theorem LO.onDisk {w : World} {gl g : Nat} {x : Lk} {S F : Nat → Prop} (h : LO w gl g x S F) : ∃ Sd, DO w g x.d Sd F ∧ (∀ k, Sd k → S k) ∧ ∀ d' w', d'.l.length = x.d.l.length → WroteO w Sd F g d' w' → LWrote w S F gl g ⟨d', x.wt, x.pn, x.op⟩ w' := by
  obtain ⟨mb, mf, Sd, hL, hs⟩ := h
  refine ⟨Sd, hL.dk, fun k hk => (hs k).2 (.inl hk), fun d' w' hd hw => ?_⟩
  obtain ⟨S', F', g1, g2, g3, g4, g5⟩ := hw.wide hL.dk.fl
  have hn : ∀ k, k < w.heap.size → ¬ Sd k → ¬ S' k := fun k hk hn hs' => (g3 k hs').elim hn (fun h => by omega)
  refine ⟨_, F', ⟨mb, mf, S', ⟨hL.blk.chg g2 hL.ng, g1, ?_, hn _ hL.blk.lt hL.ng, hn _ hL.mp.im.lt hL.nm⟩, fun k => Iff.rfl⟩, g2.mono (fun k _ hk => (hs k).2 (.inl hk)), fun k hk => ?_, g4⟩
  · have := (hL.mp.chg g2 hL.nm hL.dk.not8).wider (F' := F') (fun k hk _ => g5 k hk)
    show MBv F' w' mb (d'.l.length - 65) mf x.wt
    rw [hd]
    exact this
  · rcases hk with hk | rfl | rfl
    · exact (g3 k hk).imp (fun h => (hs k).2 (.inl h)) id
    · exact .inl ((hs _).2 (.inr (.inl rfl)))
    · exact .inl ((hs _).2 (.inr (.inr rfl)))
structure LG (W0 w : World) (gl g N : Nat) (x : Lk) (X : Nat → Prop) : Prop where
  ex : ∃ S F, LO w gl g x S F ∧ ∀ k, S k → W0.heap.size ≤ k ∧ ¬ X k
  dl : x.d.l.length = N
  bel : Below W0.heap.size W0 w
  xl : ∀ k, X k → k < w.heap.size
structure DG (W0 w : World) (g N : Nat) (d : Dk) (X : Nat → Prop) : Prop where
  ex : ∃ S F, DO w g d S F ∧ ∀ k, S k → W0.heap.size ≤ k ∧ ¬ X k
  dl : d.l.length = N
  bel : Below W0.heap.size W0 w
  xl : ∀ k, X k → k < w.heap.size
section
variable {W0 w w' : World} {gl g N M : Nat} {x : Lk} {d : Dk} {V : Nat → List UInt8} {X : Nat → Prop}
theorem LC.lg (h : LC W0 w gl g N x V X) : LG W0 w gl g N x X := ⟨h.ex, h.la.vw.dl, h.bel, h.xl⟩
theorem DC.dg (h : DC W0 w g N d V X) : DG W0 w g N d X := ⟨h.ex, h.vw.dl, h.bel, h.xl⟩
theorem DG.dc (h : DG W0 w g N d X) (hv : Vw N 0 d V) (hs : Stl d) : DC W0 w g N d V X := ⟨h.ex, hv, hs, h.bel, h.xl⟩
theorem LG.dg (h : LG W0 w gl g N x X) : DG W0 w g N x.d X := by
  obtain ⟨S, F, h1, h2⟩ := h.ex
  obtain ⟨Sd, h3, h4⟩ := h1.disk
  exact ⟨⟨Sd, F, h3, fun k hk => h2 k (h4 k hk)⟩, h.dl, h.bel, h.xl⟩
theorem DG.below (h : DG W0 w g N d X) (hb : Below w.heap.size w w') : DG W0 w' g N d X := by
  obtain ⟨S, F, h1, h2⟩ := h.ex
  exact ⟨⟨S, F, h1.below hb, h2⟩, h.dl, h.bel.trans (hb.mono h.bel.size), fun k hk => Nat.lt_of_lt_of_le (h.xl k hk) hb.size⟩
theorem DG.len (h : DG W0 w g N d X) {n : Nat} (hn : n < N) : (lastP d n).length = 512 := by
  obtain ⟨S, F, h1, h2⟩ := h.ex
  exact lastP_lenF h1.dk (by rw [h.dl]; exact hn)
theorem LG.wrote (h : LG W0 w gl g N x X) {S F : Nat → Prop} (h2 : ∀ k, S k → W0.heap.size ≤ k ∧ ¬ X k) {x' : Lk} (hw : LWrote w S F gl g x' w') (hd : x'.d.l.length = N) : LG W0 w' gl g N x' X ∧ KeepX X w w' := by
  obtain ⟨S', F', g1, g2, g3, g4⟩ := hw
  refine ⟨⟨⟨S', F', g1, fun k hk => ?_⟩, hd, below_chg h.bel g2 (fun k hk => (h2 k hk).1), fun k hk => Nat.lt_of_lt_of_le (h.xl k hk) g2.size⟩, KeepX.of_chg g2 (fun k hk => ⟨h.xl k hk, fun hs => (h2 k hs).2 hk⟩)⟩
  rcases g3 k hk with h5 | h5
  · exact h2 k h5
  · exact ⟨Nat.le_trans h.bel.size h5, fun hx => by have := h.xl k hx; omega⟩
theorem DG.wrote (h : DG W0 w g N d X) {S F : Nat → Prop} (h2 : ∀ k, S k → W0.heap.size ≤ k ∧ ¬ X k) {d' : Dk} (hw : WroteO w S F g d' w') (hd : d'.l.length = N) : DG W0 w' g N d' X ∧ KeepX X w w' := by
  obtain ⟨S', F', g1, g2, g3, g4⟩ := hw
  refine ⟨⟨⟨S', F', g1, fun k hk => ?_⟩, hd, below_chg h.bel g2 (fun k hk => (h2 k hk).1), fun k hk => Nat.lt_of_lt_of_le (h.xl k hk) g2.size⟩, KeepX.of_chg g2 (fun k hk => ⟨h.xl k hk, fun hs => (h2 k hs).2 hk⟩)⟩
  rcases g3 k hk with h5 | h5
  · exact h2 k h5
  · exact ⟨Nat.le_trans h.bel.size h5, fun hx => by have := h.xl k hx; omega⟩
theorem gArm (h : LG W0 w gl g N x X) (a : Int) (v : Value) (picks : List Int) (hv : Rd w v (ivs picks)) (hpl : picks.length ≤ 1000000000) :
    Calls Try.prog 30 #[.pointer (some ⟨g, 0, none⟩), .int .i64 a, v] w fun e w' => e = .returned (.tuple #[]) ∧ LG W0 w' gl g N ⟨armD x.d a picks, x.wt, x.pn, x.op⟩ X ∧ KeepX X w w' := by
  obtain ⟨S, F, h1, h2⟩ := h.ex
  obtain ⟨Sd, h3, h4, h5⟩ := h1.onDisk
  refine (Arm_callsO w g x.d Sd h3 a v picks hv hpl).mono ?_
  rintro e w' ⟨rfl, hw⟩
  exact ⟨rfl, h.wrote h2 (h5 _ _ rfl hw) h.dl⟩
theorem gArmD (h : DG W0 w g N d X) (a : Int) (v : Value) (picks : List Int) (hv : Rd w v (ivs picks)) (hpl : picks.length ≤ 1000000000) :
    Calls Try.prog 30 #[.pointer (some ⟨g, 0, none⟩), .int .i64 a, v] w fun e w' => e = .returned (.tuple #[]) ∧ DG W0 w' g N (armD d a picks) X ∧ KeepX X w w' := by
  obtain ⟨S, F, h1, h2⟩ := h.ex
  refine (Arm_callsO w g d S h1 a v picks hv hpl).mono ?_
  rintro e w' ⟨rfl, hw⟩
  exact ⟨rfl, h.wrote h2 hw h.dl⟩
theorem gSync (h : LG W0 w gl g N x X) (hf : Fit N M x.d) (hM : M ≤ 800000000) (hN : N ≤ 16000) (hk : (ksW (N - 65) x.wt).length ≤ 63) :
    Calls Try.prog 21 #[.pointer (some ⟨gl, 0, none⟩)] w fun e w' => e = .returned (.int .i64 (lsyncP x).1) ∧ LG W0 w' gl g N (lsyncP x).2 X ∧ KeepX X w w' := by
  obtain ⟨S, F, h1, h2⟩ := h.ex
  refine (LSync_calls w h1 hf hM (by omega) hk).mono ?_
  rintro e w' ⟨rfl, hw⟩
  exact ⟨rfl, h.wrote h2 hw (lsyncP_len hf)⟩
theorem gOff (h : DG W0 w g N d X) : Calls Try.prog 32 #[.pointer (some ⟨g, 0, none⟩)] w (Ans w (.bool d.off)) := by
  obtain ⟨S, F, h1, h2⟩ := h.ex
  exact Off_callsO w g d S h1
theorem gCut (h : DG W0 w g N d X) (ho : d.off = false) (hN : N ≤ 16000) (hw : waitP d ≤ 1000000000000) (v : Value) (picks : List Int) (hv : Rd w v (ivs picks)) (hvn : picks ≠ [] → ∀ j, v.ownBlock = some j → j < W0.heap.size) (hpl : picks.length ≤ 1000000000000) :
    Calls Try.prog 24 #[.pointer (some ⟨g, 0, none⟩), v] w fun e w' => e = .returned (.tuple #[]) ∧ DG W0 w' g N (cutD d picks) X ∧ KeepX X w w' := by
  obtain ⟨S, F, h1, h2⟩ := h.ex
  refine (Cut_callsO w g d S h1 ho (by rw [h.dl]; omega) hw v picks hv (fun hne j hj hs => by have := hvn hne j hj; have := (h2 j hs).1; omega) hpl).mono ?_
  rintro e w' ⟨rfl, hw⟩
  refine ⟨rfl, h.wrote h2 hw ?_⟩
  show (List.map _ (List.range _)).length = N
  rw [List.length_map, List.length_range, h.dl]
theorem gOn (h : DG W0 w g N d X) : Calls Try.prog 25 #[.pointer (some ⟨g, 0, none⟩)] w fun e w' => e = .returned (.tuple #[]) ∧ DG W0 w' g N (onD d) X ∧ KeepX X w w' := by
  obtain ⟨S, F, h1, h2⟩ := h.ex
  refine (On_callsO w g d S h1).mono ?_
  rintro e w' ⟨rfl, hw⟩
  exact ⟨rfl, h.wrote h2 hw h.dl⟩
/-- An Opening of what holds D. -/
theorem cOpenRep (h : DC W0 w g N d V X) (hN : 65 < N ∧ N ≤ 16000) {D : Nat → List UInt8} (hr : Rep N V D) : Calls Try.prog 14 #[.pointer (some ⟨g, 0, none⟩)] w fun e w' => ∃ d' V', HomeOk N V' D ∧ NewLC W0 w g N d' V' X e w' := by
  obtain ⟨S, F, h1, h2⟩ := h.ex
  obtain ⟨d', V', e, hv, hs, hh⟩ := open_rep h.vw h.st hN.1 (by omega) hr
  refine (Open_calls w h1 h.vw.fit (by omega) (by omega)).mono ?_
  rw [e]
  exact fun e w' ho => ⟨d', V', hh, h.logs h2 ho hv hs hh.1⟩
theorem cOpenNone (h : DC W0 w g N d V X) (hN : 65 < N ∧ N ≤ 16000) (h0 : V 0 = zblk) : Calls Try.prog 14 #[.pointer (some ⟨g, 0, none⟩)] w fun e w' => e = .returned (.tuple #[.pointer none, .int .i64 3]) ∧ Below W0.heap.size W0 w' := by
  obtain ⟨S, F, h1, h2⟩ := h.ex
  have e := open_none h.vw hN.1 h0
  refine (Open_calls w h1 h.vw.fit (by omega) (by omega)).mono ?_
  rw [e]
  rintro e w' (⟨_, rfl, hw⟩ | ⟨h0, _⟩)
  · exact ⟨rfl, (h.dg.wrote h2 hw h.vw.dl).1.bel⟩
  · cases h0
theorem gFormat (h : DG W0 w g N d X) (hf : Fit N 800000000 d) (hN : 65 < N ∧ N ≤ 16000) (hl : (formatP d).2.l.length = N) : Calls Try.prog 31 #[.pointer (some ⟨g, 0, none⟩)] w fun e w' => (∃ v, e = .returned (.tuple #[v, .int .i64 (formatP d).1])) ∧ DG W0 w' g N (formatP d).2 X ∧ KeepX X w w' := by
  obtain ⟨S, F, h1, h2⟩ := h.ex
  refine (Format_calls w h1 hf (by omega)).mono ?_
  rintro e w' (⟨_, rfl, hw⟩ | ⟨h0, gl, rfl, _, S', F', g1, g2, g3, g4⟩)
  · exact ⟨⟨_, rfl⟩, h.wrote h2 hw hl⟩
  · obtain ⟨Sd, g5, g6⟩ := g1.disk
    exact ⟨⟨_, by rw [h0]⟩, h.wrote h2 ⟨Sd, F', g5, g2, fun k hk => g3 k (g6 k hk), g4⟩ hl⟩
end
end Go.Proofs.Ytlfbfmeppcicnaa
