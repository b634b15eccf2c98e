/- The cache: is, hit, victim. -/
import Derived.Test.YtfapehgjiglflaaKp
namespace Go.Proofs.Ytfapehgjiglflaa
open Go.RowKit
theorem drew_below (w : World) : Below w.heap.size w w.drew := ⟨rfl, rfl, rfl, Nat.le_refl _, fun _ _ => rfl⟩
theorem ofs_self (gc : Nat) : ofs gc gc = 3 := if_pos rfl
theorem ofs_ne {gc k : Nat} (h : k ≠ gc) : ofs gc k = 0 := if_neg h
theorem ext2 {S : Nat → Prop} {w : World} {a b : Nat} {i j : Nat} (u v : Value) (ha : S a) (hb : S b) : Chg S w ((w.setCell ⟨a, i, none⟩ u).setCell ⟨b, j, none⟩ v) := ((Chg.refl S w).at_ ha _).at_ hb _
theorem Out_calls (w : World) {gc g mb : Nat} {c : Ck} {u v : List (Nat × Hd)} {x : Nat × Hd} (h : KM w gc g mb c (u ++ x :: v)) :
    Calls Try.prog 63 #[.pointer (some ⟨x.1, 0, none⟩)] w fun e w' => e = .returned (.tuple #[]) ∧ KM w' gc g mb c (u ++ v) ∧ Nod w' x.1 x.2 ∧ x.1 ∉ (u ++ v).map (·.1) ∧ Chg (fun k => k = gc ∨ k ∈ (u ++ x :: v).map (·.1)) w w' := by
  obtain ⟨p, y, A, B, hr⟩ := ring_of gc u v x.1
  have hr : Ring gc u v x.1 p y A B := ⟨hr.hu, hr.hv⟩
  obtain ⟨h1, h2, h3, h4, h5, h6⟩ := hr.conds h.dup h.gcn
  have hl := h.lnk
  rw [hr.all] at hl
  obtain ⟨c1, c2, c3, c4⟩ := hl.three
  have hxg : x.1 ≠ gc := (h.nod x (by simp)).ne h.cb
  have hx4 : pv gc x.1 = ⟨x.1, 4, none⟩ := by unfold pv; rw [ofs_ne hxg]
  have hx5 : nx gc x.1 = ⟨x.1, 5, none⟩ := by unfold nx; rw [ofs_ne hxg]
  rw [hx4] at c2
  rw [hx5] at c3
  obtain ⟨tp, csp, hBp, _⟩ := h.kind hr.pm
  obtain ⟨ty, csy, hBy, _⟩ := h.kind hr.ym
  obtain ⟨cy2, hBy2⟩ := Blk.set_nx (show Blk w.drew y ty csy from hBy) gc p (.pointer (some (ad gc y)))
  have e2 : (w.drew.setCell (nx gc p) (.pointer (some (ad gc y)))).cell? (pv gc y) = some (.pointer (some (ad gc x.1))) := by
    rw [cso (nx_pv gc p y)]
    exact c4
  refine (out_calls w x.1 p (ofs gc p) y (ofs gc y) c2 c3 h5 h6 _ _ c1 (hBp.frozen _) e2 (hBy2.frozen _)).mono ?_
  rintro e w' ⟨rfl, rfl⟩
  obtain ⟨q1, q2, q3⟩ := (h.below (drew_below w)).out hr
  have hp : p = gc ∨ p ∈ (u ++ x :: v).map (·.1) := hr.pm
  have hy : y = gc ∨ y ∈ (u ++ x :: v).map (·.1) := hr.ym
  exact ⟨rfl, q1, q2, q3, (((Chg.refl (fun k => k = gc ∨ k ∈ (u ++ x :: v).map (·.1)) w).drew).at_ hp _).at_ hy _⟩
theorem First_calls (w : World) {gc g mb : Nat} {c : Ck} {ns : List (Nat × Hd)} {k : Nat} {hd : Hd} (h : KM w gc g mb c ns) (hn : Nod w k hd) (hk : k ∉ ns.map (·.1)) :
    Calls Try.prog 64 #[.pointer (some ⟨gc, 0, none⟩), .pointer (some ⟨k, 0, none⟩)] w fun e w' => e = .returned (.tuple #[]) ∧ KM w' gc g mb c ((k, hd) :: ns) ∧ Chg (fun j => j = gc ∨ j = k ∨ j ∈ ns.map (·.1)) w w' := by
  obtain ⟨y, B, hy⟩ := cons_of gc (ns.map (·.1))
  have hkg : k ≠ gc := hn.ne h.cb
  have hym : y = gc ∨ y ∈ ns.map (·.1) := by
    have : y ∈ ns.map (·.1) ++ [gc] := by rw [hy]; simp
    exact (List.mem_append.1 this).symm.imp List.mem_singleton.1 id
  have hyk : y ≠ k := by
    rcases hym with rfl | hm
    · exact fun e => hkg e.symm
    · exact fun e => hk (e ▸ hm)
  have hl := h.lnk
  rw [hy] at hl
  obtain ⟨l1, l2, _⟩ := hl
  have eg : nx gc gc = ⟨gc, 8, none⟩ := by unfold nx; rw [ofs_self]
  have ea : ad gc gc = ⟨gc, 3, none⟩ := by unfold ad; rw [ofs_self]
  rw [eg] at l1
  obtain ⟨vb, a4, a5, hB, hv⟩ := hn
  obtain ⟨q7, q8, hG⟩ := h.cb
  obtain ⟨ty, csy, hBy, _⟩ := h.kind hym
  refine (first_calls w gc k y (ofs gc y) l1 (fun e => hkg e.symm) hyk _ _ ty csy _ a4 a5 hB (hB.cell 4) (hB.cell 5) hG hBy l2 (fun e => by rw [e]; exact ofs_self gc)).mono ?_
  rintro e w' ⟨rfl, rfl⟩
  have hF := (h.below (drew_below w)).first (k := k) (hd := hd) (y := y) (B := B) ⟨vb, a4, a5, hB, hv⟩ hk hy
  rw [eg, ea] at hF
  refine ⟨rfl, hF.below (drew_below _), ?_⟩
  have hs : ∀ j, j = y → j = gc ∨ j = k ∨ j ∈ ns.map (·.1) := fun j e => by
    subst e
    rcases hym with e | e
    · exact .inl e
    · exact .inr (.inr e)
  exact (((((Chg.refl (fun j => j = gc ∨ j = k ∨ j ∈ ns.map (·.1)) w).drew).at_ (.inr (.inl rfl)) _).at_ (.inr (.inl rfl)) _).drew.at_ (.inl rfl) _).at_ (hs y rfl) _
set_option maxRecDepth 10000 in
theorem is_calls (w : World) {gc g mb N : Nat} {c : Ck} {d : Dk} {ns : List (Nat × Hd)} {S : Nat → Prop} (h : KC w gc g mb N c d ns S) (hN : d.l.length = N) (n : Int) :
    Calls Try.prog 36 #[.pointer (some ⟨gc, 0, none⟩), .int .i64 n] w (Ans w (.bool (decide (0 ≤ n) && decide (n < (N : Int))))) := by
  have hBl := Lib.hid (Blocks_calls w g d S h.dk)
  rw [hN] at hBl
  obtain ⟨p, q, hG⟩ := h.km.cb
  have c0 : w.cell? ⟨gc, 0, none⟩ = some (.pointer (some ⟨g, 0, none⟩)) := hG.cell 0
  clear h hG hN
  by_cases h0 : 0 ≤ n
  · rw [decide_eq_true h0, Bool.true_and]
    go_enter Try.func36, Try.ntmps36
    go_wp2_with fail
    refine hBl.out.mono ?_
    rintro e w1 ⟨rfl, rfl⟩
    go_wp2
    go_ret
    exact ⟨rfl, rfl⟩
  · rw [decide_eq_false h0, Bool.false_and]
    go_enter Try.func36, Try.ntmps36
    go_wp2
    go_ret
    exact ⟨rfl, rfl⟩
theorem zero_hp (w : World) : (zeroValue 76).run Try.prog w = .ok (.pointer none) w := by kernel_rfl
def hitC (c : Ck) (l : List Hd) : Ck := ⟨c.size, l, winc c.hits, c.misses, c.evs⟩
set_option maxRecDepth 10000 in
theorem hitNo_calls (w : World) {gc g mb N : Nat} {c : Ck} {d : Dk} {ns : List (Nat × Hd)} {S : Nat → Prop} (h : KC w gc g mb N c d ns S) (n : Nat) (hn : n < 9223372036854775808) (hno : n ∉ ns.map (·.2.n)) :
    Calls Try.prog 37 #[.pointer (some ⟨gc, 0, none⟩), .int .i64 (n : Int)] w (Ans w (.pointer none)) := by
  obtain ⟨p, q, hG⟩ := h.km.cb
  have c2 : w.cell? ⟨gc, 2, none⟩ = some (.map (some mb)) := hG.cell 2
  have hlk := h.mp.run_lookup (mt := 75) (et := 76) Try.underlying3 Try.underlying75 (zero_hp w) (k := n) hn
  rw [mfN_off hno, Option.getD_none] at hlk
  clear h hG hno
  go_enter Try.func37, Try.ntmps37
  go_wp2
  go_ret
  exact ⟨rfl, rfl⟩
set_option maxRecDepth 10000 in
set_option maxHeartbeats 2000000 in
theorem hit_calls (w : World) {gc g mb N : Nat} {c : Ck} {d : Dk} {u v : List (Nat × Hd)} {x : Nat × Hd} {S : Nat → Prop} (h : KC w gc g mb N c d (u ++ x :: v) S) (hn : x.2.n < 9223372036854775808) :
    Calls Try.prog 37 #[.pointer (some ⟨gc, 0, none⟩), .int .i64 (x.2.n : Int)] w fun e w' => e = .returned (.pointer (some ⟨x.1, 0, none⟩)) ∧
      KC w' gc g mb N (hitC c (x.2 :: (u ++ v).map (·.2))) d (x :: (u ++ v)) S ∧ Chg (footK gc mb (u ++ x :: v)) w w' := by
  have hh := Lib.hid h
  have hmv := Lib.hid (mfN_move h.num)
  obtain ⟨p, q, hG⟩ := h.km.cb
  have c2 : w.cell? ⟨gc, 2, none⟩ = some (.map (some mb)) := hG.cell 2
  have c9 : w.cell? ⟨gc, 9, none⟩ = some (.int .i64 c.hits) := hG.cell 9
  have f9 := hG.frozen 9
  have hlk := h.mp.run_lookup (mt := 75) (et := 76) Try.underlying3 Try.underlying75 (zero_hp w) (k := x.2.n) hn
  rw [mfN_at h.num, Option.getD_some] at hlk
  obtain ⟨k, hd⟩ := x
  simp only at hlk hn hmv ⊢
  have hK1 : Hid (KM (w.setCell ⟨gc, 9, none⟩ (.int .i64 (winc c.hits))) gc g mb (hitC c c.l) (u ++ (k, hd) :: v)) := h.km.cset _ (by omega) (h.km.cb.hits (winc c.hits))
  have hc1 : Hid (Chg (fun j => j = gc ∨ j ∈ (u ++ (k, hd) :: v).map (·.1)) w (w.setCell ⟨gc, 9, none⟩ (.int .i64 (winc c.hits)))) := (Chg.refl _ w).at_ (.inl rfl) _
  have hsub : ∀ j, (j = gc ∨ j ∈ (u ++ (k, hd) :: v).map (·.1)) → footK gc mb (u ++ (k, hd) :: v) j := fun j hj => hj.imp id .inr
  have hmb : ¬ (mb = gc ∨ mb ∈ (u ++ (k, hd) :: v).map (·.1)) := fun e => by
    obtain ⟨t, cs, hb, _⟩ := h.km.kind e
    exact absurd rfl (h.mp.blk_ne hb)
  have hsub := Lib.hid hsub
  have hmb := Lib.hid hmb
  have hfin : Hid (∀ w', KM w' gc g mb (hitC c c.l) ((k, hd) :: (u ++ v)) → Chg (fun j => j = gc ∨ j ∈ (u ++ (k, hd) :: v).map (·.1)) w w' → KC w' gc g mb N (hitC c (hd :: (u ++ v).map (·.2))) d ((k, hd) :: (u ++ v)) S) := fun w' hk hc =>
    { dk := DKF.chg hh.out.dk hc (fun j hS hF => hh.out.notS (hsub.out j hF) hS) (fun j cs hb hF => hh.out.notk hb (fun hk => (kindK_ne hk).2.2.1 rfl) (hsub.out j hF)) (fun j cs hb hF => hh.out.notk hb (fun hk => (kindK_ne hk).2.2.2.1 rfl) (hsub.out j hF))
      km := hk.list _
      mp := by
        rw [hmv.out]
        exact hh.out.mp.chg hc hmb.out
      mn := hh.out.mn
      cl := by simp [hitC]
      num := by
        have := hh.out.num
        rw [List.map_append, List.map_cons] at this
        have h7 := List.nodup_append.1 this
        rw [List.map_cons, List.nodup_cons, List.map_append, List.mem_append, List.nodup_append]
        exact ⟨fun hm => by
          rcases hm with hm | hm
          · exact h7.2.2 _ hm _ (by simp) rfl
          · exact (List.nodup_cons.1 h7.2.1).1 hm, h7.1, (List.nodup_cons.1 h7.2.1).2, fun a ha b hb => h7.2.2 a ha b (List.mem_cons_of_mem _ hb)⟩
      lo := fun z hz => hh.out.lo z (by
        rcases List.mem_cons.1 hz with rfl | hz
        · simp
        · rcases List.mem_append.1 hz with hz | hz
          · exact List.mem_append.2 (.inl hz)
          · exact List.mem_append.2 (.inr (List.mem_cons_of_mem _ hz))) }
  clear h hG
  unfold winc at *
  go_enter Try.func37, Try.ntmps37
  go_wp2_with fail
  refine (Out_calls _ hK1.out).mono ?_
  rintro e w1 ⟨rfl, hk1, hn1, hni, hch1⟩
  go_wp2_with fail
  refine (First_calls w1 hk1 hn1 hni).mono ?_
  rintro e w2 ⟨rfl, hk2, hch2⟩
  have hC2 : Chg (fun j => j = gc ∨ j ∈ (u ++ (k, hd) :: v).map (·.1)) w w2 := by
    refine (hc1.out.trans hch1).trans (hch2.mono fun j _ hj => ?_)
    rcases hj with e | e | e
    · exact .inl e
    · exact .inr (mem_all.2 (.inr (.inl e)))
    · rw [List.map_append, List.mem_append] at e
      rcases e with e | e
      · exact .inr (mem_all.2 (.inl e))
      · exact .inr (mem_all.2 (.inr (.inr e)))
  have hF := Lib.hid (hfin.out w2 hk2 hC2)
  have hC2 := Lib.hid (hC2.mono (fun j _ hj => hsub.out j hj))
  clear hk1 hn1 hni hch1 hk2 hch2 hfin hK1 hc1
  go_wp2
  go_ret
  exact ⟨rfl, hF.out, hC2.out⟩
end Go.Proofs.Ytfapehgjiglflaa
