/- CacheWrites: plain. -/
import Derived.Test.YtfapehgjiglflaaClw
import Derived.Test.YtfapehgjiglflaaCpp
namespace Go.Proofs.Ytfapehgjiglflaa
open Go.RowKit
structure QInv (size M : Nat) (c : Ck) (d : Dk) : Prop where
  sz : c.size = (size : Int)
  nd : (c.l.map (·.n)).Nodup
  len : c.l.length ≤ size
  pin : ∀ h ∈ c.l, h.pins = 0
  lo : ∀ h ∈ c.l, h.n < 16
  b512 : ∀ h ∈ c.l, h.b.length = 512
  dl : d.l.length = 16
  wl : d.wt.length = 16
  of : d.off = false
  ar : d.arm = 0
  pk : d.picks = []
  wr : 0 ≤ d.wr ∧ d.wr ≤ M
  ev : 0 ≤ c.evs ∧ c.evs ≤ M
  wt : waitP d ≤ M
theorem dirty_len {c : Ck} {N : Nat} (hn : (c.l.map (·.n)).Nodup) (hlo : ∀ h ∈ c.l, h.n < N) : (dirtyL c N).length = (c.l.filter fun h => h.dirty).length := by
  have hw : (dirtyL c N).Nodup := List.Pairwise.filter _ List.nodup_range
  have hw2 : ((c.l.filter fun h => h.dirty).map (·.n)).Nodup := List.Nodup.sublist (List.Sublist.map _ (List.filter_sublist)) hn
  have el : (c.l.filter fun h => h.dirty).length = ((c.l.filter fun h => h.dirty).map (·.n)).length := (List.length_map _).symm
  rw [el]
  refine ((List.perm_ext_iff_of_nodup hw hw2).2 (fun a => ?_)).length_eq
  unfold dirtyL
  rw [mem_which, List.mem_map]
  constructor
  · rintro ⟨_, y, hy, e, hd⟩
    exact ⟨y, List.mem_filter.2 ⟨hy, hd⟩, e⟩
  · rintro ⟨y, hy, e⟩
    obtain ⟨h1, h2⟩ := List.mem_filter.1 hy
    exact ⟨e ▸ hlo y h1, y, h1, e, h2⟩
theorem held_len {c : Ck} {N : Nat} (hn : (c.l.map (·.n)).Nodup) (hlo : ∀ h ∈ c.l, h.n < N) : (heldL c N).length = c.l.length := by
  have hw : (heldL c N).Nodup := List.Pairwise.filter _ List.nodup_range
  have el : c.l.length = (c.l.map (·.n)).length := (List.length_map _).symm
  rw [el]
  refine ((List.perm_ext_iff_of_nodup hw hn).2 (fun a => ?_)).length_eq
  unfold heldL
  rw [mem_which, List.mem_map]
  constructor
  · rintro ⟨_, y, hy, e, _⟩
    exact ⟨y, hy, e⟩
  · rintro ⟨y, hy, e⟩
    exact ⟨e ▸ hlo y hy, y, hy, e, rfl⟩
namespace QInv
variable {size M : Nat} {c : Ck} {d : Dk}
theorem dko (h : QInv size M c d) (hM : M ≤ 1000) : Dko 16 d := ⟨h.dl, h.wl, Nat.le_trans h.wt (by omega), by rw [h.ar]; omega, by rw [h.pk]; simp⟩
theorem ok (h : QInv size M c d) (hM : M ≤ 1000) : Cok 16 c d := ⟨h.dko hM, h.b512⟩
def Good (size M : Nat) (c : Ck) (d : Dk) (o : Int × Ck × Dk) : Prop :=
  o.1 = 0 ∧ QInv size (M + 1) o.2.1 o.2.2 ∧ 0 ≤ o.2.2.wr - d.wr ∧ o.2.2.wr - d.wr ≤ o.2.1.evs - c.evs ∧ o.2.1.evs - c.evs ≤ 1 ∧ (dirtyL o.2.1 16).length ≤ (dirtyL c 16).length + 1
theorem put (h : QInv size M c d) (hs : 1 ≤ size) (hM : M ≤ 900) {n : Nat} (hn : n < 16) {P : List UInt8} (hP : P.length = 512) : Good size M c d (putP c d 16 n P) := by
  have hput : putP c d 16 n P = if (slotP c d 16 n).1 = 0 then (0, putC (slotP c d 16 n).2.1 P, (slotP c d 16 n).2.2) else slotP c d 16 n := by
    unfold putP
    rw [if_neg (by rw [hP]; omega)]
  have hS : slotP c d 16 n = match c.l.find? (fun h => h.n == n) with
      | some h => (0, hitC c (h :: delL c.l n), d)
      | none => if (c.l.length : Int) < c.size then (0, missC c (⟨n, [], false, 0⟩ :: c.l), d) else match vicL c.l with
        | none => (13, c, d)
        | some x => holdP c d ⟨n, [], false, 0⟩ (some x) := rfl
  have hw := h.wr
  have he := h.ev
  have hdc := dirty_len h.nd h.lo
  cases hf : c.l.find? (fun h => h.n == n) with
  | some x =>
    rw [hf] at hS
    have hS : slotP c d 16 n = (0, hitC c (x :: delL c.l n), d) := hS
    rw [hS, if_pos rfl] at hput
    rw [hput]
    obtain ⟨hxm, hxn⟩ := find_mem hf
    have hp := delL_at h.nd hxm
    rw [hxn] at hp
    have hl : (putC (hitC c (x :: delL c.l n)) P).l = ⟨x.n, P, true, x.pins⟩ :: delL c.l n := rfl
    have hsub : ∀ y ∈ delL c.l n, y ∈ c.l := fun y hy => delL_sub hy
    have hnd2 : ((putC (hitC c (x :: delL c.l n)) P).l.map (·.n)).Nodup := by
      rw [hl]
      exact (hp.map (·.n)).nodup h.nd
    have hlo2 : ∀ y ∈ (putC (hitC c (x :: delL c.l n)) P).l, y.n < 16 := fun y hy => by
      rw [hl] at hy
      rcases List.mem_cons.1 hy with rfl | hy
      · exact h.lo x hxm
      · exact h.lo y (hsub y hy)
    have hd2 := dirty_len hnd2 hlo2
    have hcnt : (c.l.filter fun h => h.dirty).length = ((x :: delL c.l n).filter fun h => h.dirty).length := (hp.filter _).length_eq
    refine ⟨rfl, ⟨h.sz, hnd2, ?_, ?_, hlo2, ?_, h.dl, h.wl, h.of, h.ar, h.pk, ⟨hw.1, by show d.wr ≤ _; omega⟩, ⟨he.1, by show c.evs ≤ _; omega⟩, by have := h.wt; show waitP d ≤ _; omega⟩, by show 0 ≤ d.wr - d.wr; omega, by show d.wr - d.wr ≤ c.evs - c.evs; omega, by show c.evs - c.evs ≤ 1; omega, ?_⟩
    · rw [hl]; have := hp.length_eq; have h5 := h.len; simp only [List.length_cons] at this ⊢; omega
    · intro y hy
      rw [hl] at hy
      rcases List.mem_cons.1 hy with rfl | hy
      · exact h.pin x hxm
      · exact h.pin y (hsub y hy)
    · intro y hy
      rw [hl] at hy
      rcases List.mem_cons.1 hy with rfl | hy
      · exact hP
      · exact h.b512 y (hsub y hy)
    · show (dirtyL (putC (hitC c (x :: delL c.l n)) P) 16).length ≤ _
      rw [hd2, hdc, hcnt, hl, List.filter_cons, if_pos rfl, List.length_cons, List.filter_cons]
      split <;> (try simp only [List.length_cons]) <;> omega
  | none =>
    rw [hf] at hS
    have hno := find_none hf
    by_cases hlt : (c.l.length : Int) < c.size
    · have hS : slotP c d 16 n = (0, missC c (⟨n, [], false, 0⟩ :: c.l), d) := by rw [hS]; show (if _ then _ else _) = _; rw [if_pos hlt]
      rw [hS, if_pos rfl] at hput
      rw [hput]
      have hl : (putC (missC c (⟨n, [], false, 0⟩ :: c.l)) P).l = ⟨n, P, true, 0⟩ :: c.l := rfl
      have hnd2 : ((putC (missC c (⟨n, [], false, 0⟩ :: c.l)) P).l.map (·.n)).Nodup := by rw [hl]; exact List.nodup_cons.2 ⟨hno, h.nd⟩
      have hlo2 : ∀ y ∈ (putC (missC c (⟨n, [], false, 0⟩ :: c.l)) P).l, y.n < 16 := fun y hy => by
        rw [hl] at hy
        rcases List.mem_cons.1 hy with rfl | hy
        · exact hn
        · exact h.lo y hy
      have hd2 := dirty_len hnd2 hlo2
      refine ⟨rfl, ⟨h.sz, hnd2, ?_, ?_, hlo2, ?_, h.dl, h.wl, h.of, h.ar, h.pk, ⟨hw.1, by show d.wr ≤ _; omega⟩, ⟨he.1, by show c.evs ≤ _; omega⟩, by have := h.wt; show waitP d ≤ _; omega⟩, by show 0 ≤ d.wr - d.wr; omega, by show d.wr - d.wr ≤ c.evs - c.evs; omega, by show c.evs - c.evs ≤ 1; omega, ?_⟩
      · rw [hl]; have := h.sz; simp only [List.length_cons]; omega
      · intro y hy
        rw [hl] at hy
        rcases List.mem_cons.1 hy with rfl | hy
        · rfl
        · exact h.pin y hy
      · intro y hy
        rw [hl] at hy
        rcases List.mem_cons.1 hy with rfl | hy
        · exact hP
        · exact h.b512 y hy
      · show (dirtyL (putC (missC c (⟨n, [], false, 0⟩ :: c.l)) P) 16).length ≤ _
        rw [hd2, hdc, hl, List.filter_cons, if_pos rfl, List.length_cons]
        omega
    · have hlen := h.len
      have hsz := h.sz
      obtain ⟨x, hv, hxm⟩ : ∃ x, vicL c.l = some x ∧ x ∈ c.l := by
        cases hv : vicL c.l with
        | none =>
          exfalso
          unfold vicL at hv
          cases hcl : c.l with
          | nil => rw [hcl] at hlt hlen; simp at hlt; omega
          | cons a r =>
            have := List.find?_eq_none.1 hv a (by rw [hcl]; simp)
            rw [h.pin a (by rw [hcl]; simp)] at this
            simp at this
        | some x =>
          refine ⟨x, rfl, ?_⟩
          unfold vicL at hv
          exact List.mem_reverse.1 (List.mem_of_find?_eq_some hv)
      have hS : slotP c d 16 n = holdP c d ⟨n, [], false, 0⟩ (some x) := by
        rw [hS]
        show (if _ then _ else _) = _
        rw [if_neg hlt, hv]
      have hp := delL_at h.nd hxm
      have hsub : ∀ y ∈ delL c.l x.n, y ∈ c.l := fun y hy => delL_sub hy
      have hll := hp.length_eq
      rw [List.length_cons] at hll
      have hno2 : n ∉ (delL c.l x.n).map (·.n) := fun hm => by
        obtain ⟨y, hy, e⟩ := List.mem_map.1 hm
        exact hno (List.mem_map.2 ⟨y, hsub y hy, e⟩)
      have hl : (putC (missC (evC c (delL c.l x.n)) (⟨n, [], false, 0⟩ :: delL c.l x.n)) P).l = ⟨n, P, true, 0⟩ :: delL c.l x.n := rfl
      have hnd2 : ((putC (missC (evC c (delL c.l x.n)) (⟨n, [], false, 0⟩ :: delL c.l x.n)) P).l.map (·.n)).Nodup := by
        rw [hl]
        exact List.nodup_cons.2 ⟨hno2, (List.nodup_cons.1 ((hp.map (·.n)).nodup h.nd)).2⟩
      have hlo2 : ∀ y ∈ (putC (missC (evC c (delL c.l x.n)) (⟨n, [], false, 0⟩ :: delL c.l x.n)) P).l, y.n < 16 := fun y hy => by
        rw [hl] at hy
        rcases List.mem_cons.1 hy with rfl | hy
        · exact hn
        · exact h.lo y (hsub y hy)
      have hd2 := dirty_len hnd2 hlo2
      have hcnt : (c.l.filter fun h => h.dirty).length = ((x :: delL c.l x.n).filter fun h => h.dirty).length := (hp.filter _).length_eq
      have hle2 : (putC (missC (evC c (delL c.l x.n)) (⟨n, [], false, 0⟩ :: delL c.l x.n)) P).l.length ≤ size := by rw [hl, List.length_cons]; omega
      have hpin2 : ∀ y ∈ (putC (missC (evC c (delL c.l x.n)) (⟨n, [], false, 0⟩ :: delL c.l x.n)) P).l, y.pins = 0 := fun y hy => by
        rw [hl] at hy
        rcases List.mem_cons.1 hy with rfl | hy
        · rfl
        · exact h.pin y (hsub y hy)
      have hb2 : ∀ y ∈ (putC (missC (evC c (delL c.l x.n)) (⟨n, [], false, 0⟩ :: delL c.l x.n)) P).l, y.b.length = 512 := fun y hy => by
        rw [hl] at hy
        rcases List.mem_cons.1 hy with rfl | hy
        · exact hP
        · exact h.b512 y (hsub y hy)
      have hev2 : (putC (missC (evC c (delL c.l x.n)) (⟨n, [], false, 0⟩ :: delL c.l x.n)) P).evs = c.evs + 1 := by
        show winc c.evs = _
        exact winc_small he.1 (by omega)
      cases hdy : x.dirty with
      | false =>
        have hH : holdP c d ⟨n, [], false, 0⟩ (some x) = (0, missC (evC c (delL c.l x.n)) (⟨n, [], false, 0⟩ :: delL c.l x.n), d) := by
          show (if x.dirty = true then _ else _) = _
          rw [if_neg (by simp [hdy])]
        rw [hS, hH, if_pos rfl] at hput
        rw [hput]
        refine ⟨rfl, ⟨h.sz, hnd2, hle2, hpin2, hlo2, hb2, h.dl, h.wl, h.of, h.ar, h.pk, ⟨hw.1, by show d.wr ≤ _; omega⟩, ⟨by show 0 ≤ (putC _ P).evs; rw [hev2]; omega, by show (putC _ P).evs ≤ _; rw [hev2]; omega⟩, by have := h.wt; show waitP d ≤ _; omega⟩, by show 0 ≤ d.wr - d.wr; omega, by show d.wr - d.wr ≤ (putC _ P).evs - c.evs; rw [hev2]; omega, by show (putC _ P).evs - c.evs ≤ 1; rw [hev2]; omega, ?_⟩
        show (dirtyL (putC (missC (evC c (delL c.l x.n)) (⟨n, [], false, 0⟩ :: delL c.l x.n)) P) 16).length ≤ _
        rw [hd2, hdc, hcnt, hl, List.filter_cons, if_pos rfl, List.length_cons, List.filter_cons]
        split <;> (try simp only [List.length_cons]) <;> omega
      | true =>
        have hW := writeP_okK (d := d) (n := x.n) (b := x.b) h.of (by rw [h.ar]; omega) (by rw [h.dl]; exact h.lo x hxm) (h.b512 x hxm)
        have hH : holdP c d ⟨n, [], false, 0⟩ (some x) = (0, missC (evC c (delL c.l x.n)) (⟨n, [], false, 0⟩ :: delL c.l x.n), addD d x.n x.b) := by
          show (if x.dirty = true then _ else _) = _
          rw [if_pos hdy, hW, if_pos rfl]
        rw [hS, hH, if_pos rfl] at hput
        rw [hput]
        have hwr2 : (addD d x.n x.b).wr = d.wr + 1 := winc_small hw.1 (by omega)
        refine ⟨rfl, ⟨h.sz, hnd2, hle2, hpin2, hlo2, hb2, h.dl, by show (List.set _ _ _).length = 16; rw [List.length_set]; exact h.wl, h.of, h.ar, h.pk, ⟨by show 0 ≤ (addD d x.n x.b).wr; rw [hwr2]; omega, by show (addD d x.n x.b).wr ≤ _; rw [hwr2]; omega⟩, ⟨by show 0 ≤ (putC _ P).evs; rw [hev2]; omega, by show (putC _ P).evs ≤ _; rw [hev2]; omega⟩, by have := h.wt; have h3 := waitP_addK d x.n x.b; show waitP (addD d x.n x.b) ≤ M + 1; omega⟩, by show 0 ≤ (addD d x.n x.b).wr - d.wr; rw [hwr2]; omega, by show (addD d x.n x.b).wr - d.wr ≤ (putC _ P).evs - c.evs; rw [hev2, hwr2]; omega, by show (putC _ P).evs - c.evs ≤ 1; rw [hev2]; omega, ?_⟩
        show (dirtyL (putC (missC (evC c (delL c.l x.n)) (⟨n, [], false, 0⟩ :: delL c.l x.n)) P) 16).length ≤ _
        rw [hd2, hdc, hcnt, hl, List.filter_cons, if_pos rfl, List.length_cons, List.filter_cons]
        split <;> (try simp only [List.length_cons]) <;> omega
theorem flD_wr (l : List Hd) : ∀ (ks : List Nat) (d : Dk), 0 ≤ d.wr → d.wr + ks.length ≤ 1000 → (flD l d ks).wr = d.wr + ks.length
  | [], d, _, _ => by simp [flD]
  | a :: r, d, h0, h1 => by
    have hw : (addD d a (bOf l a)).wr = d.wr + 1 := winc_small h0 (by simp only [List.length_cons] at h1; omega)
    have ih := flD_wr l r (addD d a (bOf l a)) (by rw [hw]; omega) (by rw [hw]; simp only [List.length_cons] at h1; omega)
    show (flD l (addD d a (bOf l a)) r).wr = _
    rw [ih, hw, List.length_cons]
    omega
/-- A Flush. -/
theorem flush (h : QInv size M c d) (hM : M ≤ 900) (hs : size ≤ 10) : QInv size (M + 16) (flushC c 16) (flushD c d 16) ∧ (flushD c d 16).wr = d.wr + (dirtyL c 16).length ∧ dirtyL (flushC c 16) 16 = [] ∧ (dirtyL c 16).length ≤ 16 := by
  have hl16 : (dirtyL c 16).length ≤ 16 := nodup_le (List.Pairwise.filter _ List.nodup_range) (fun k hk => (mem_which.1 hk).1)
  obtain ⟨f1, f2, f3, f4, f5⟩ := flD_keep c.l d (dirtyL c 16)
  have hw := h.wr
  have hwr : (flushD c d 16).wr = d.wr + (dirtyL c 16).length := flD_wr c.l (dirtyL c 16) d hw.1 (by omega)
  have hnum : ((flushC c 16).l.map (·.n)) = c.l.map (·.n) := by
    show (c.l.map (clnIf (dirtyL c 16))).map (·.n) = _
    rw [List.map_map]
    exact List.map_congr_left fun y _ => clnIf_n _ y
  refine ⟨⟨h.sz, by rw [hnum]; exact h.nd, by show (c.l.map _).length ≤ _; rw [List.length_map]; exact h.len, ?_, ?_, ?_, ?_, ?_, f2.trans h.of, f3.trans h.ar, f4.trans h.pk, ⟨by rw [hwr]; omega, by rw [hwr]; omega⟩, ⟨h.ev.1, by have := h.ev.2; show c.evs ≤ _; omega⟩, ?_⟩, hwr, ?_, hl16⟩
  · intro x hx
    obtain ⟨y, hy, rfl⟩ := List.mem_map.1 hx
    unfold clnIf
    split <;> exact h.pin y hy
  · intro x hx
    obtain ⟨y, hy, rfl⟩ := List.mem_map.1 hx
    rw [clnIf_n]
    exact h.lo y hy
  · intro x hx
    obtain ⟨y, hy, rfl⟩ := List.mem_map.1 hx
    rw [clnIf_b]
    exact h.b512 y hy
  · show (List.map _ (List.range _)).length = 16
    rw [List.length_map, List.length_range, f1, h.dl]
  · show (List.replicate _ _).length = 16
    rw [List.length_replicate, f1, h.dl]
  · have : waitP (flushD c d 16) = 0 := waitP_of (fun n => getD_replK _ n)
    rw [this]; omega
  · have hm : ∀ a, a ∉ dirtyL (flushC c 16) 16 := fun a ha => by
      unfold dirtyL at ha
      obtain ⟨_, x, hx, e, hd⟩ := mem_which.1 ha
      obtain ⟨y, hy, rfl⟩ := List.mem_map.1 hx
      by_cases hyd : y.n ∈ dirtyL c 16
      · unfold clnIf at hd
        have hd : (if y.n ∈ dirtyL c 16 then clnH y else y).dirty = true := hd
        rw [if_pos hyd] at hd
        cases hd
      · have hd : (if y.n ∈ dirtyL c 16 then clnH y else y).dirty = true := hd
        rw [if_neg hyd] at hd
        exact hyd (mem_which.2 ⟨h.lo y hy, y, hy, rfl, hd⟩)
    exact List.eq_nil_iff_forall_not_mem.2 hm
end QInv
/-- What the Gets leave. -/
theorem QInv.start {size : Nat} {c : Ck} {us : List Nat} {k : Nat} (h : Cln 16 size c us) (hc : Cnt k c us) (hk : k ≤ 60) : QInv size 100 c (dN 16) :=
  ⟨h.sz, by rw [h.num]; exact (List.reverse_perm us).symm.nodup h.nd, by have := congrArg List.length h.num; simp at this; have h2 := h.len; omega, fun x hx => (h.cl x hx).1, fun x hx => by
    have : x.n ∈ c.l.map (·.n) := List.mem_map.2 ⟨x, hx, rfl⟩
    rw [h.num] at this
    exact h.lo _ (List.mem_reverse.1 this), h.b512, newD_len 16, List.length_replicate, rfl, rfl, rfl, ⟨by show (0 : Int) ≤ 0; omega, by show (0 : Int) ≤ _; omega⟩, ⟨hc.e0, by have h1 := hc.evs; have h2 := hc.sum; have h3 := hc.h0; omega⟩, by rw [show waitP (dN 16) = 0 from waitP_of (fun n => getD_replK 16 n)]; omega⟩
end Go.Proofs.Ytfapehgjiglflaa
