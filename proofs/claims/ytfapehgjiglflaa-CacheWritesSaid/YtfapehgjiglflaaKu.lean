/- The cache: Put. -/
import Derived.Test.YtfapehgjiglflaaKa
namespace Go.Proofs.Ytfapehgjiglflaa
open Go.RowKit
set_option maxRecDepth 10000 in
set_option maxHeartbeats 16000000 in
theorem Put_calls (w : World) {gc g mb N : Nat} {c : Ck} {d : Dk} {ns : List (Nat × Hd)} {S : Nat → Prop} (h : KC w gc g mb N c d ns S) (hN : N ≤ 16384) (hdk : Dko N d) (h512 : ∀ x ∈ ns, x.2.b.length = 512) (n : Int) (x : Value) (b : List UInt8) (hx : RdT (fun _ => True) 5 w x (bvs b)) :
    Calls Try.prog 16 #[.pointer (some ⟨gc, 0, none⟩), .int .i64 n, x] w (ErrO w gc g mb N ns S (putP c d N n b)) := by
  have hI := Lib.hid (is_calls w h hdk.ll n)
  have hx0 := hx
  obtain ⟨xA, xc, rfl⟩ := hx0.shape
  rw [bvs_length] at hx ⊢
  clear hx0
  by_cases hr : n < 0 ∨ (N : Int) ≤ n
  · have hP : putP c d N n b = (1, c, d) := by unfold putP; rw [if_pos (.inl hr)]
    rw [hP]
    have hb : (decide (0 ≤ n) && decide (n < (N : Int))) = false := by simp; omega
    rw [hb] at hI
    have hO : Hid (ErrO w gc g mb N ns S (1, c, d) (.returned (.int .i64 1)) w) := ⟨rfl, ns, KTo.refl h⟩
    generalize b.length = L at *
    clear h hP hb hr hx
    go_enter Try.func16, Try.ntmps16
    go_wp2_with fail
    refine hI.out.mono ?_
    rintro e w1 ⟨rfl, rfl⟩
    go_wp2
    go_ret
    exact hO.out
  have hb : (decide (0 ≤ n) && decide (n < (N : Int))) = true := by simp; omega
  rw [hb] at hI
  by_cases h5 : b.length ≠ 512
  · have hP : putP c d N n b = (1, c, d) := by unfold putP; rw [if_pos (.inr h5)]
    rw [hP]
    have hO : Hid (ErrO w gc g mb N ns S (1, c, d) (.returned (.int .i64 1)) w) := ⟨rfl, ns, KTo.refl h⟩
    have hb5 : ((b.length : Int) != 512) = true := by simp; omega
    generalize b.length = L at *
    clear h hP hb hr hx h5
    go_enter Try.func16, Try.ntmps16
    go_wp2_with fail
    refine hI.out.mono ?_
    rintro e w1 ⟨rfl, rfl⟩
    go_wp2
    go_ret
    exact hO.out
  have h5 : b.length = 512 := Decidable.not_not.1 h5
  rw [h5] at hx ⊢
  have hP1 : Hid (putP c d N n b = if (slotP c d N n).1 = 0 then (0, putC (slotP c d N n).2.1 b, (slotP c d N n).2.2) else slotP c d N n) := by
    show putP c d N n b = _
    unfold putP
    rw [if_neg (by rw [h5]; omega)]
  obtain ⟨n, rfl⟩ : ∃ k : Nat, n = k := ⟨n.toNat, by omega⟩
  have hnN : n < N := by omega
  have hS0 : slotP c d N n = match c.l.find? (fun h => h.n == n) with
      | some h => (0, hitC c (h :: delL c.l n), d)
      | none => if (c.l.length : Int) < c.size then holdP c d ⟨n, [], false, 0⟩ none else match vicL c.l with
        | none => (13, c, d)
        | some x => holdP c d ⟨n, [], false, 0⟩ (some x) := rfl
  obtain ⟨o2, ho2⟩ : ∃ o2, Hid (putP c d N n b = o2) := ⟨_, rfl⟩
  rw [ho2.out]
  rw [ho2.out] at hP1
  have hx8 : Hid (∀ k cs, Blk w k 5 cs → ¬ (S k ∨ footK gc mb ns k)) := fun k cs hb hF => by
    rcases hF with hF | hF
    · exact h.dk.not8 k cs hb hF
    · exact h.notk hb (fun hk => (kindK_ne hk).2.2.1 rfl) hF
  clear ho2
  by_cases hm : n ∈ ns.map (·.2.n)
  · obtain ⟨u, x, v, rfl, rfl⟩ := split_of hm
    have hS : slotP c d N x.2.n = (0, hitC c (x.2 :: (u ++ v).map (·.2)), d) := by
      rw [hS0, ← h.cl, find_at h.num]
      show (_, hitC c (x.2 :: delL ((u ++ x :: v).map (·.2)) x.2.n), d) = _
      rw [del_at h.num]
    have hO0 : Hid (o2 = (0, putC (0, hitC c (x.2 :: (u ++ v).map (·.2)), d).2.1 b, (0, hitC c (x.2 :: (u ++ v).map (·.2)), d).2.2)) := by
      show _ = _
      rw [hP1.out, hS, if_pos rfl]
    have hH := Lib.hid (hit_calls w h (by omega))
    have hT : Hid (∀ w', KC w' gc g mb N (hitC c (x.2 :: (u ++ v).map (·.2))) d (x :: (u ++ v)) S → Chg (footK gc mb (u ++ x :: v)) w w' → KTo w gc g mb N (u ++ x :: v) S (0, hitC c (x.2 :: (u ++ v).map (·.2)), d).2.1 (0, hitC c (x.2 :: (u ++ v).map (·.2)), d).2.2 ((x.1, x.2) :: (u ++ v)) w') := fun w' h1 h2 =>
      ⟨S, h1, h2.mono fun j _ e => .inr e, fun j hj => .inl (hj.imp id fun hj => by
        rcases hj with hj | hj | hj
        · exact .inl hj
        · exact .inr (.inl hj)
        · rw [List.map_cons, List.mem_cons, List.map_append, List.mem_append] at hj
          refine .inr (.inr (mem_all.2 ?_))
          rcases hj with hj | hj | hj
          · exact .inr (.inl hj)
          · exact .inl hj
          · exact .inr (.inr hj))⟩
    have hxk := Lib.hid hx
    obtain ⟨k, hd⟩ := x
    simp only at hH hT hO0 ⊢
    clear h hS hS0 hP1 hb hm hr hnN h512 hx
    generalize (u ++ (k, hd) :: v) = ns at *
    go_enter Try.func16, Try.ntmps16
    go_wp2_with fail
    refine hI.out.mono ?_
    rintro e w1 ⟨rfl, rfl⟩
    go_wp2_with fail
    refine hH.out.mono ?_
    rintro e w3 ⟨rfl, q1, q2⟩
    have hto := Lib.hid (hT.out w3 q1 q2)
    have hx3 : Hid (Rd w3 (.slice xA 512 xc) (bvs b)) := (hxk.out.chg q2 (fun j cs hb hF => hx8.out j cs hb (.inr hF))).1
    clear q1 q2 hH hT hI hxk hx8
    go_wp2_with fail
    refine (Clone8_calls w3 (.slice xA 512 xc) b hx3.out (by omega)).mono ?_
    rintro e w4 ⟨r4, rfl, ho4, hB4, _⟩
    obtain ⟨⟨nsF, hF⟩, vb, lp, lq, hBk, hrd⟩ := put_end (o := (0, hitC c (hd :: (u ++ v).map (·.2)), d)) hto.out hB4 ho4
    obtain ⟨rA, rc, rfl⟩ := ho4.shape
    rw [h5] at hF
    have d1 : w4.cell? ⟨k, 1, none⟩ = some vb := hBk.cell 1
    have f1 := hBk.frozen 1
    have d2 : (w4.setCell ⟨k, 1, none⟩ (.slice rA 512 rc)).cell? ⟨k, 2, none⟩ = some (.bool hd.dirty) := (hBk.set_ 1 (.slice rA 512 rc)).cell 2
    have f2 : (w4.setCell ⟨k, 1, none⟩ (.slice rA 512 rc)).frozen? ⟨k, 2, none⟩ = false := (hBk.set_ 1 (.slice rA 512 rc)).frozen 2
    obtain ⟨vA, vc, rfl⟩ := hrd.shape
    have hfin : Hid (ErrO w gc g mb N ns S o2 (.returned (.int .i64 0)) ((w4.setCell ⟨k, 1, none⟩ (.slice rA 512 rc)).setCell ⟨k, 2, none⟩ (.bool true))) := by
      show ErrO _ _ _ _ _ _ _ _ _ _
      rw [hO0.out]
      exact ⟨rfl, nsF, hF⟩
    have hO1 : Hid (o2.1 = 0) := by show _ = _; rw [hO0.out]
    clear hBk hrd hF ho4 hB4 hx3 hto hO0
    generalize (bvs hd.b).length = vl at *
    go_wp2
    go_ret
    exact hfin.out
  have hH := Lib.hid (hitNo_calls w h n (by omega) hm)
  have hf : c.l.find? (fun h => h.n == n) = none := by rw [← h.cl]; exact find_no hm
  have hlen : c.l.length = ns.length := by rw [← h.cl, List.length_map]
  rw [hf, hlen] at hS0
  have hS0 : slotP c d N n = if (ns.length : Int) < c.size then holdP c d ⟨n, [], false, 0⟩ none else match vicL c.l with
        | none => (13, c, d)
        | some x => holdP c d ⟨n, [], false, 0⟩ (some x) := hS0
  clear hf hlen
  have hB2 : Below w.heap.size w (w.drew.alloc (.cells #[.int .i64 (n : Int), .slice none 0 0, .bool false, .int .i64 0, .pointer none, .pointer none] 78)) := (drew_below w).trans (alloc_belowK w.drew _)
  by_cases hs : (ns.length : Int) < c.size
  · have hS : slotP c d N n = holdP c d ⟨n, [], false, 0⟩ none := by rw [hS0, if_pos hs]
    have hV := Lib.hid (vicRoom_calls w h hs)
    clear hs
    have hn2 : Nod (w.drew.alloc (.cells #[.int .i64 (n : Int), .slice none 0 0, .bool false, .int .i64 0, .pointer none, .pointer none] 78)) w.heap.size ⟨n, [], false, 0⟩ := ⟨_, none, none, Blk.new w.drew _ _, RdT.nil _ _⟩
    have hK2 := h.below hB2
    have hCl := Lib.hid (hold_calls w _ hB2 (k := w.heap.size) (Nat.le_refl _) hK2 hn2 (fun hmm => by have := h.lt (.inr (.inr hmm)); omega) hm hnN hN hdk h512 none (fun x hx => by cases hx))
    have hxk := Lib.hid hx
    simp only [Option.map_some, Option.map_none] at hCl
    have hO0 : Hid ((holdP c d ⟨n, [], false, 0⟩ none).1 = 0 → o2 = (0, putC (holdP c d ⟨n, [], false, 0⟩ none).2.1 b, (holdP c d ⟨n, [], false, 0⟩ none).2.2)) := fun hq => by
      rw [hP1.out, hS, if_pos hq]
    have hO9 : Hid ((holdP c d ⟨n, [], false, 0⟩ none).1 ≠ 0 → o2 = holdP c d ⟨n, [], false, 0⟩ none) := fun hq => by
      rw [hP1.out, hS, if_neg hq]
    generalize holdP c d ⟨n, [], false, 0⟩ none = o at *
    clear hn2 hK2 hS hS0 hP1 hb hm hr hnN hx h hB2
    go_enter Try.func16, Try.ntmps16
    go_wp2_with fail
    refine hI.out.mono ?_
    rintro e w1 ⟨rfl, rfl⟩
    go_wp2_with fail
    refine hH.out.mono ?_
    rintro e w1 ⟨rfl, rfl⟩
    go_wp2_with fail
    refine hV.out.mono ?_
    rintro e w1 ⟨rfl, rfl⟩
    go_wp2_with fail
    refine hCl.out.mono ?_
    rintro e w3 ⟨rfl, ns', hto, h0⟩
    by_cases hq : o.1 = 0
    · obtain ⟨r, rfl⟩ := h0 hq
      have hto := Lib.hid hto
      have hx3 : Hid (Rd w3 (.slice xA 512 xc) (bvs b)) := by
        obtain ⟨_, _, hc, _⟩ := hto.out
        exact (hxk.out.chg hc hx8.out).1
      have hO0 := Lib.hid (hO0.out hq)
      obtain ⟨k, hk⟩ : ∃ k, Hid (w.heap.size = k) := ⟨_, rfl⟩
      obtain ⟨hd, hhd⟩ : ∃ hd, (⟨n, [], false, 0⟩ : Hd) = hd := ⟨_, rfl⟩
      rw [hhd] at hto
      rw [hq]
      clear hhd hI hH hV hCl h0 hq hO9 hxk hx8
      rw [hk.out] at hto ⊢
      go_wp2_with fail
      refine (Clone8_calls w3 (.slice xA 512 xc) b hx3.out (by omega)).mono ?_
      rintro e w4 ⟨r4, rfl, ho4, hB4, _⟩
      obtain ⟨⟨nsF, hF⟩, vb, lp, lq, hBk, hrd⟩ := put_end (o := o) hto.out hB4 ho4
      obtain ⟨rA, rc, rfl⟩ := ho4.shape
      rw [h5] at hF
      have d1 : w4.cell? ⟨k, 1, none⟩ = some vb := hBk.cell 1
      have f1 := hBk.frozen 1
      have d2 : (w4.setCell ⟨k, 1, none⟩ (.slice rA 512 rc)).cell? ⟨k, 2, none⟩ = some (.bool hd.dirty) := (hBk.set_ 1 (.slice rA 512 rc)).cell 2
      have f2 : (w4.setCell ⟨k, 1, none⟩ (.slice rA 512 rc)).frozen? ⟨k, 2, none⟩ = false := (hBk.set_ 1 (.slice rA 512 rc)).frozen 2
      obtain ⟨vA, vc, rfl⟩ := hrd.shape
      have hfin : Hid (ErrO w gc g mb N ns S o2 (.returned (.int .i64 0)) ((w4.setCell ⟨k, 1, none⟩ (.slice rA 512 rc)).setCell ⟨k, 2, none⟩ (.bool true))) := by
        show ErrO _ _ _ _ _ _ _ _ _ _
        rw [hO0.out]
        exact ⟨rfl, nsF, hF⟩
      have hO1 : Hid (o2.1 = 0) := by show _ = _; rw [hO0.out]
      clear hBk hrd hF ho4 hB4 hx3 hto hO0
      generalize (bvs hd.b).length = vl at *
      go_wp2
      go_ret
      exact hfin.out
    · have hO9 := hO9.out hq
      have hfin : Hid (ErrO w gc g mb N ns S o2 (.returned (.int .i64 o.1)) w3) := by
        show ErrO _ _ _ _ _ _ _ _ _ _
        rw [hO9]
        exact ⟨rfl, ns', hto⟩
      have hqb : ((o.1 : Int) != 0) = true := by simpa using hq
      clear hto h0 hI hH hV hCl hO0 hxk hx8 hO9
      go_wp2
      go_ret
      exact hfin.out
  · rw [if_neg hs] at hS0
    have hV := Lib.hid (victim_calls w h hs)
    have hvl : vicL c.l = (vicP ns).map (·.2) := by rw [← h.cl]; exact vicL_of ns
    rw [hvl] at hS0
    clear hs hvl
    cases hvp : vicP ns with
    | none =>
      rw [hvp] at hS0 hV
      have hS : slotP c d N n = (13, c, d) := hS0
      have hO : Hid (ErrO w gc g mb N ns S o2 (.returned (.int .i64 13)) (w.drew.alloc (.cells #[.int .i64 (n : Int), .slice none 0 0, .bool false, .int .i64 0, .pointer none, .pointer none] 78))) := by
        show ErrO _ _ _ _ _ _ _ _ _ _
        rw [hP1.out, hS, if_neg (by show ¬ (13 : Int) = 0; omega)]
        exact ⟨rfl, ns, KTo.below h hB2⟩
      clear h hS hS0 hP1 hb hm hr h512 hvp hB2 hx hx8
      unfold vicV at hV
      go_enter Try.func16, Try.ntmps16
      go_wp2_with fail
      refine hI.out.mono ?_
      rintro e w1 ⟨rfl, rfl⟩
      go_wp2_with fail
      refine hH.out.mono ?_
      rintro e w1 ⟨rfl, rfl⟩
      go_wp2_with fail
      refine hV.out.mono ?_
      rintro e w1 ⟨rfl, rfl⟩
      go_wp2
      go_ret
      exact hO.out
    | some x =>
      rw [hvp] at hS0 hV
      have hS : slotP c d N n = holdP c d ⟨n, [], false, 0⟩ (some x.2) := hS0
      have hxm : x ∈ ns := by
        obtain ⟨u, v, e, _⟩ := vicP_split hvp
        rw [e]
        simp
      unfold vicV at hV
      clear hvp
      have hn2 : Nod (w.drew.alloc (.cells #[.int .i64 (n : Int), .slice none 0 0, .bool false, .int .i64 0, .pointer none, .pointer none] 78)) w.heap.size ⟨n, [], false, 0⟩ := ⟨_, none, none, Blk.new w.drew _ _, RdT.nil _ _⟩
      have hK2 := h.below hB2
      have hCl := Lib.hid (hold_calls w _ hB2 (k := w.heap.size) (Nat.le_refl _) hK2 hn2 (fun hmm => by have := h.lt (.inr (.inr hmm)); omega) hm hnN hN hdk h512 (some x) (fun y hy => by cases hy; exact hxm))
      have hxk := Lib.hid hx
      simp only [Option.map_some, Option.map_none] at hCl
      have hO0 : Hid ((holdP c d ⟨n, [], false, 0⟩ (some x.2)).1 = 0 → o2 = (0, putC (holdP c d ⟨n, [], false, 0⟩ (some x.2)).2.1 b, (holdP c d ⟨n, [], false, 0⟩ (some x.2)).2.2)) := fun hq => by
        rw [hP1.out, hS, if_pos hq]
      have hO9 : Hid ((holdP c d ⟨n, [], false, 0⟩ (some x.2)).1 ≠ 0 → o2 = holdP c d ⟨n, [], false, 0⟩ (some x.2)) := fun hq => by
        rw [hP1.out, hS, if_neg hq]
      generalize holdP c d ⟨n, [], false, 0⟩ (some x.2) = o at *
      clear hn2 hK2 hS hS0 hP1 hb hm hr hnN hx h hB2
      go_enter Try.func16, Try.ntmps16
      go_wp2_with fail
      refine hI.out.mono ?_
      rintro e w1 ⟨rfl, rfl⟩
      go_wp2_with fail
      refine hH.out.mono ?_
      rintro e w1 ⟨rfl, rfl⟩
      go_wp2_with fail
      refine hV.out.mono ?_
      rintro e w1 ⟨rfl, rfl⟩
      go_wp2_with fail
      refine hCl.out.mono ?_
      rintro e w3 ⟨rfl, ns', hto, h0⟩
      by_cases hq : o.1 = 0
      · obtain ⟨r, rfl⟩ := h0 hq
        have hto := Lib.hid hto
        have hx3 : Hid (Rd w3 (.slice xA 512 xc) (bvs b)) := by
          obtain ⟨_, _, hc, _⟩ := hto.out
          exact (hxk.out.chg hc hx8.out).1
        have hO0 := Lib.hid (hO0.out hq)
        obtain ⟨k, hk⟩ : ∃ k, Hid (w.heap.size = k) := ⟨_, rfl⟩
        obtain ⟨hd, hhd⟩ : ∃ hd, (⟨n, [], false, 0⟩ : Hd) = hd := ⟨_, rfl⟩
        rw [hhd] at hto
        rw [hq]
        clear hhd hI hH hV hCl h0 hq hO9 hxk hx8
        rw [hk.out] at hto ⊢
        go_wp2_with fail
        refine (Clone8_calls w3 (.slice xA 512 xc) b hx3.out (by omega)).mono ?_
        rintro e w4 ⟨r4, rfl, ho4, hB4, _⟩
        obtain ⟨⟨nsF, hF⟩, vb, lp, lq, hBk, hrd⟩ := put_end (o := o) hto.out hB4 ho4
        obtain ⟨rA, rc, rfl⟩ := ho4.shape
        rw [h5] at hF
        have d1 : w4.cell? ⟨k, 1, none⟩ = some vb := hBk.cell 1
        have f1 := hBk.frozen 1
        have d2 : (w4.setCell ⟨k, 1, none⟩ (.slice rA 512 rc)).cell? ⟨k, 2, none⟩ = some (.bool hd.dirty) := (hBk.set_ 1 (.slice rA 512 rc)).cell 2
        have f2 : (w4.setCell ⟨k, 1, none⟩ (.slice rA 512 rc)).frozen? ⟨k, 2, none⟩ = false := (hBk.set_ 1 (.slice rA 512 rc)).frozen 2
        obtain ⟨vA, vc, rfl⟩ := hrd.shape
        have hfin : Hid (ErrO w gc g mb N ns S o2 (.returned (.int .i64 0)) ((w4.setCell ⟨k, 1, none⟩ (.slice rA 512 rc)).setCell ⟨k, 2, none⟩ (.bool true))) := by
          show ErrO _ _ _ _ _ _ _ _ _ _
          rw [hO0.out]
          exact ⟨rfl, nsF, hF⟩
        have hO1 : Hid (o2.1 = 0) := by show _ = _; rw [hO0.out]
        clear hBk hrd hF ho4 hB4 hx3 hto hO0
        generalize (bvs hd.b).length = vl at *
        go_wp2
        go_ret
        exact hfin.out
      · have hO9 := hO9.out hq
        have hfin : Hid (ErrO w gc g mb N ns S o2 (.returned (.int .i64 o.1)) w3) := by
          show ErrO _ _ _ _ _ _ _ _ _ _
          rw [hO9]
          exact ⟨rfl, ns', hto⟩
        have hqb : ((o.1 : Int) != 0) = true := by simpa using hq
        clear hto h0 hI hH hV hCl hO0 hxk hx8 hO9
        go_wp2
        go_ret
        exact hfin.out
end Go.Proofs.Ytfapehgjiglflaa
