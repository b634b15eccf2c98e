/- The cache: get. -/
import Derived.Test.YtfapehgjiglflaaKl
namespace Go.Proofs.Ytfapehgjiglflaa
open Go.RowKit
theorem alloc_belowK (w : World) (o : Obj) : Below w.heap.size w (w.alloc o) := (Below.refl _ _).alloc (Nat.le_refl _) _
def delL (l : List Hd) (n : Nat) : List Hd := l.filter fun h => h.n != n
def vicL (l : List Hd) : Option Hd := l.reverse.find? fun h => h.pins == 0
def holdP (c : Ck) (d : Dk) (hd : Hd) : Option Hd → Int × Ck × Dk
  | none => (0, missC c (hd :: c.l), d)
  | some x => if x.dirty = true then
      (if (writeP d x.n x.b).1 = 0 then (0, missC (evC c (delL c.l x.n)) (hd :: delL c.l x.n), (writeP d x.n x.b).2) else ((writeP d x.n x.b).1, c, (writeP d x.n x.b).2))
    else (0, missC (evC c (delL c.l x.n)) (hd :: delL c.l x.n), d)
def getP (c : Ck) (d : Dk) (N : Nat) (n : Int) : Int × Ck × Dk :=
  if n < 0 ∨ (N : Int) ≤ n then (1, c, d) else
  match c.l.find? (fun h => h.n == n.toNat) with
  | some h => (0, hitC c (h :: delL c.l n.toNat), d)
  | none =>
    if (c.l.length : Int) < c.size then (if d.off = true then (6, c, d) else holdP c d ⟨n.toNat, lastP d n.toNat, false, 0⟩ none)
    else match vicL c.l with
      | none => (13, c, d)
      | some x => if d.off = true then (6, c, d) else holdP c d ⟨n.toNat, lastP d n.toNat, false, 0⟩ (some x)
theorem vicL_of (ns : List (Nat × Hd)) : vicL (ns.map (·.2)) = (vicP ns).map (·.2) := by
  unfold vicL vicP
  rw [← List.map_reverse, List.find?_map]
  rfl
theorem find_no {ns : List (Nat × Hd)} {n : Nat} (h : n ∉ ns.map (·.2.n)) : (ns.map (·.2)).find? (fun h => h.n == n) = none := by
  rw [List.find?_eq_none]
  intro x hx
  obtain ⟨y, hy, rfl⟩ := List.mem_map.1 hx
  simp only [beq_iff_eq]
  exact fun e => h (List.mem_map.2 ⟨y, hy, e⟩)
theorem find_at {u v : List (Nat × Hd)} {x : Nat × Hd} (h : ((u ++ x :: v).map (·.2.n)).Nodup) : ((u ++ x :: v).map (·.2)).find? (fun h => h.n == x.2.n) = some x.2 := by
  rw [List.map_append, List.find?_append, find_no (num_split h).1, List.map_cons, List.find?_cons]
  simp
theorem del_at {u v : List (Nat × Hd)} {x : Nat × Hd} (h : ((u ++ x :: v).map (·.2.n)).Nodup) : delL ((u ++ x :: v).map (·.2)) x.2.n = (u ++ v).map (·.2) := by
  unfold delL
  have hk : ∀ l : List (Nat × Hd), x.2.n ∉ l.map (·.2.n) → (l.map (·.2)).filter (fun h => h.n != x.2.n) = l.map (·.2) := fun l hl => by
    rw [List.filter_eq_self]
    intro y hy
    obtain ⟨z, hz, rfl⟩ := List.mem_map.1 hy
    simp only [bne_iff_ne]
    exact fun e => hl (List.mem_map.2 ⟨z, hz, e⟩)
  rw [List.map_append, List.map_cons, List.filter_append, List.filter_cons, if_neg (by simp), hk u (num_split h).1, hk v (num_split h).2, List.map_append]
theorem split_of {ns : List (Nat × Hd)} {n : Nat} (h : n ∈ ns.map (·.2.n)) : ∃ u x v, ns = u ++ x :: v ∧ x.2.n = n := by
  obtain ⟨x, hx, e⟩ := List.mem_map.1 h
  obtain ⟨u, v, e2⟩ := List.append_of_mem hx
  exact ⟨u, x, v, e2, e⟩
/-- The state behind a call. -/
def KTo (w : World) (gc g mb N : Nat) (ns : List (Nat × Hd)) (S : Nat → Prop) (c' : Ck) (d' : Dk) (ns' : List (Nat × Hd)) (w' : World) : Prop :=
  ∃ S', KC w' gc g mb N c' d' ns' S' ∧ Chg (fun j => S j ∨ footK gc mb ns j) w w' ∧ ∀ j, (S' j ∨ footK gc mb ns' j) → (S j ∨ footK gc mb ns j) ∨ w.heap.size ≤ j
theorem KTo.refl {w : World} {gc g mb N : Nat} {c : Ck} {d : Dk} {ns : List (Nat × Hd)} {S : Nat → Prop} (h : KC w gc g mb N c d ns S) : KTo w gc g mb N ns S c d ns w := ⟨S, h, Chg.refl _ _, fun _ h => .inl h⟩
theorem KTo.below {w w' : World} {gc g mb N : Nat} {c : Ck} {d : Dk} {ns : List (Nat × Hd)} {S : Nat → Prop} (h : KC w gc g mb N c d ns S) (hb : Below w.heap.size w w') : KTo w gc g mb N ns S c d ns w' :=
  ⟨S, h.below hb, (Chg.of_below hb).mono (fun j hj e => absurd hj (by have : w.heap.size ≤ j := e; omega)), fun _ h => .inl h⟩
theorem KTo.of {w w1 w' : World} {gc g mb N k : Nat} {c' : Ck} {d' : Dk} {ns ns' : List (Nat × Hd)} {S S' : Nat → Prop} (hb : Below w.heap.size w w1) (hk : w.heap.size ≤ k) (h : KC w' gc g mb N c' d' ns' S') (hc : Chg (fun j => S j ∨ footK gc mb ns j ∨ j = k) w1 w') (hs : ∀ j, S' j → S j ∨ w1.heap.size ≤ j)
    (hf : ∀ j, j ∈ ns'.map (·.1) → j ∈ ns.map (·.1) ∨ j = k) : KTo w gc g mb N ns S c' d' ns' w' := by
  refine ⟨S', h, ⟨hc.os.trans hb.os, hc.tape.trans hb.tape, hc.output.trans hb.output, Nat.le_trans hb.size hc.size, fun j hj hn => ?_⟩, fun j hj => ?_⟩
  · rw [hc.block j (Nat.lt_of_lt_of_le hj hb.size) (fun e => ?_), hb.block j hj]
    rcases e with e | e | e
    · exact hn (.inl e)
    · exact hn (.inr e)
    · omega
  · rcases hj with hj | hj | hj | hj
    · rcases hs j hj with e | e
      · exact .inl (.inl e)
      · exact .inr (Nat.le_trans hb.size e)
    · exact .inl (.inr (.inl hj))
    · exact .inl (.inr (.inr (.inl hj)))
    · rcases hf j hj with e | e
      · exact .inl (.inr (.inr (.inr e)))
      · exact .inr (e ▸ hk)
/-- What the disk's calls ask. -/
structure Dko (N : Nat) (d : Dk) : Prop where
  ll : d.l.length = N
  wl : d.wt.length = N
  wt : waitP d ≤ 1000000
  ar : d.arm ≤ 9223372036854775807
  pk : d.picks.length ≤ 1000000000
def vptr : Option (Nat × Hd) → Value
  | some x => .pointer (some ⟨x.1, 0, none⟩)
  | none => .pointer none
/-- Whatever goes, or nothing. -/
theorem hold_calls (w0 w : World) (hb : Below w0.heap.size w0 w) {gc g mb N k : Nat} (hk0 : w0.heap.size ≤ k) {c : Ck} {d : Dk} {ns : List (Nat × Hd)} {S : Nat → Prop} {hd : Hd} (h : KC w gc g mb N c d ns S) (hn : Nod w k hd) (hk : k ∉ ns.map (·.1)) (hnum : hd.n ∉ ns.map (·.2.n)) (hlo : hd.n < N) (hN : N ≤ 16384) (hdk : Dko N d) (h512 : ∀ x ∈ ns, x.2.b.length = 512)
    (v : Option (Nat × Hd)) (hv : ∀ x, v = some x → x ∈ ns) :
    Calls Try.prog 39 #[.pointer (some ⟨gc, 0, none⟩), .pointer (some ⟨k, 0, none⟩), vptr v] w fun e w' => e = .returned (.int .i64 (holdP c d hd (v.map (·.2))).1) ∧
      ∃ ns', KTo w0 gc g mb N ns S (holdP c d hd (v.map (·.2))).2.1 (holdP c d hd (v.map (·.2))).2.2 ns' w' ∧ ((holdP c d hd (v.map (·.2))).1 = 0 → ∃ r, ns' = (k, hd) :: r) := by
  cases v with
  | none =>
    refine (holdNil_calls w h hn hk hnum hlo hN).mono ?_
    rintro e w' ⟨rfl, h1, h2⟩
    exact ⟨rfl, _, KTo.of hb hk0 h1 (h2.mono fun j _ e => .inr e) (fun j h => .inl h) (fun j hj => by
      rw [List.map_cons, List.mem_cons] at hj
      exact hj.symm), fun _ => ⟨_, rfl⟩⟩
  | some x =>
    obtain ⟨u, v, rfl⟩ := List.append_of_mem (hv x rfl)
    have hdl : delL c.l x.2.n = (u ++ v).map (·.2) := by rw [← h.cl]; exact del_at h.num
    have hsub : ∀ j, j ∈ ((k, hd) :: (u ++ v)).map (·.1) → j ∈ (u ++ x :: v).map (·.1) ∨ j = k := fun j hj => by
      rw [List.map_cons, List.mem_cons] at hj
      rcases hj with hj | hj
      · exact .inr hj
      · rw [List.map_append, List.mem_append] at hj
        exact .inl (mem_all.2 (hj.imp id .inr))
    show Calls _ _ _ _ fun e w' => e = .returned (.int .i64 (holdP c d hd (some x.2)).1) ∧ ∃ ns', KTo w0 gc g mb N (u ++ x :: v) S (holdP c d hd (some x.2)).2.1 (holdP c d hd (some x.2)).2.2 ns' w' ∧ ((holdP c d hd (some x.2)).1 = 0 → ∃ r, ns' = (k, hd) :: r)
    cases hdy : x.2.dirty with
    | false =>
      have hP : holdP c d hd (some x.2) = (0, missC (evC c ((u ++ v).map (·.2))) (hd :: (u ++ v).map (·.2)), d) := by
        show (if x.2.dirty = true then _ else _) = _
        rw [if_neg (by simp [hdy]), hdl]
      rw [hP]
      refine (holdClean_calls w h hn hk hnum hlo hN hdy).mono ?_
      rintro e w' ⟨rfl, h1, h2⟩
      exact ⟨rfl, _, KTo.of hb hk0 h1 (h2.mono fun j _ e => .inr e) (fun j h => .inl h) hsub, fun _ => ⟨_, rfl⟩⟩
    | true =>
      refine (holdDirty_calls w h hn hk hnum hlo hN hdy (h512 x (by simp)) (by rw [hdk.ll]; exact hN) hdk.wt hdk.ar hdk.pk).mono ?_
      rintro e w' ⟨rfl, S', hs, hc, ho⟩
      rcases ho with ⟨hq, h1⟩ | ⟨hq, h1⟩
      · have hP : holdP c d hd (some x.2) = (0, missC (evC c ((u ++ v).map (·.2))) (hd :: (u ++ v).map (·.2)), (writeP d x.2.n x.2.b).2) := by
          show (if x.2.dirty = true then _ else _) = _
          rw [if_pos hdy, if_pos hq, hdl]
        rw [hP, hq]
        exact ⟨rfl, _, KTo.of hb hk0 h1 hc hs hsub, fun _ => ⟨_, rfl⟩⟩
      · have hP : holdP c d hd (some x.2) = ((writeP d x.2.n x.2.b).1, c, (writeP d x.2.n x.2.b).2) := by
          show (if x.2.dirty = true then _ else _) = _
          rw [if_pos hdy, if_neg hq]
        rw [hP]
        exact ⟨rfl, _, KTo.of hb hk0 h1 hc hs (fun j hj => .inl hj), fun h0 => absurd h0 hq⟩
/-- What get hands back. -/
def GetOut (w : World) (gc g mb N : Nat) (ns : List (Nat × Hd)) (S : Nat → Prop) (o : Int × Ck × Dk) (n : Int) (e : Ending) (w' : World) : Prop :=
  ∃ ns', KTo w gc g mb N ns S o.2.1 o.2.2 ns' w' ∧ ((o.1 = 0 ∧ ∃ k hd r, ns' = (k, hd) :: r ∧ (hd.n : Int) = n ∧ e = .returned (.tuple #[.pointer (some ⟨k, 0, none⟩), .int .i64 0])) ∨ (o.1 ≠ 0 ∧ e = .returned (.tuple #[.pointer none, .int .i64 o.1])))
set_option maxRecDepth 10000 in
set_option maxHeartbeats 8000000 in
theorem get_calls (w : World) {gc g mb N : Nat} {c : Ck} {d : Dk} {ns : List (Nat × Hd)} {S : Nat → Prop} (h : KC w gc g mb N c d ns S) (hN : N ≤ 16384) (hdk : Dko N d) (h512 : ∀ x ∈ ns, x.2.b.length = 512) (n : Int) :
    Calls Try.prog 32 #[.pointer (some ⟨gc, 0, none⟩), .int .i64 n] w (GetOut w gc g mb N ns S (getP c d N n) n) := by
  have hI := Lib.hid (is_calls w h hdk.ll n)
  by_cases hr : n < 0 ∨ (N : Int) ≤ n
  · have hP : getP c d N n = (1, c, d) := by unfold getP; rw [if_pos hr]
    rw [hP]
    have hb : (decide (0 ≤ n) && decide (n < (N : Int))) = false := by simp; omega
    rw [hb] at hI
    have hO : Hid (∀ e, e = .returned (.tuple #[.pointer none, .int .i64 1]) → GetOut w gc g mb N ns S (1, c, d) n e w) := fun e he => ⟨ns, KTo.refl h, .inr ⟨by show (1 : Int) ≠ 0; omega, he⟩⟩
    clear h hP hb hr
    go_enter Try.func32, Try.ntmps32
    go_wp2_with fail
    refine hI.out.mono ?_
    rintro e w1 ⟨rfl, rfl⟩
    go_wp2
    go_ret2
    exact hO.out _ rfl
  have hb : (decide (0 ≤ n) && decide (n < (N : Int))) = true := by simp; omega
  rw [hb] at hI
  obtain ⟨n, rfl⟩ : ∃ k : Nat, n = k := ⟨n.toNat, by omega⟩
  have hnN : n < N := by omega
  have hP0 : getP c d N n = match c.l.find? (fun h => h.n == n) with
      | some h => (0, hitC c (h :: delL c.l n), d)
      | none => if (c.l.length : Int) < c.size then (if d.off = true then (6, c, d) else holdP c d ⟨n, lastP d n, false, 0⟩ none) else match vicL c.l with
        | none => (13, c, d)
        | some x => if d.off = true then (6, c, d) else holdP c d ⟨n, lastP d n, false, 0⟩ (some x) := by
    unfold getP
    rw [if_neg hr]
    rfl
  by_cases hm : n ∈ ns.map (·.2.n)
  · obtain ⟨u, x, v, rfl, rfl⟩ := split_of hm
    have hP : getP c d N x.2.n = (0, hitC c (x.2 :: (u ++ v).map (·.2)), d) := by
      rw [hP0, ← h.cl, find_at h.num]
      show (_, hitC c (x.2 :: delL ((u ++ x :: v).map (·.2)) x.2.n), d) = _
      rw [del_at h.num]
    rw [hP]
    have hH := Lib.hid (hit_calls w h (by omega))
    have hO : Hid (∀ w', KC w' gc g mb N (hitC c (x.2 :: (u ++ v).map (·.2))) d (x :: (u ++ v)) S → Chg (footK gc mb (u ++ x :: v)) w w' → GetOut w gc g mb N (u ++ x :: v) S (0, hitC c (x.2 :: (u ++ v).map (·.2)), d) x.2.n (.returned (.tuple #[.pointer (some ⟨x.1, 0, none⟩), .int .i64 0])) w') := fun w' h1 h2 =>
      ⟨_, ⟨S, h1, h2.mono fun j _ e => .inr e, fun j hj => .inl (hj.imp id fun hj => by
        rcases hj with hj | hj | hj
        · exact .inl hj
        · exact .inr (.inl hj)
        · rw [List.map_cons, List.mem_cons, List.map_append, List.mem_append] at hj
          refine .inr (.inr (mem_all.2 ?_))
          rcases hj with hj | hj | hj
          · exact .inr (.inl hj)
          · exact .inl hj
          · exact .inr (.inr hj))⟩, .inl ⟨rfl, x.1, x.2, u ++ v, rfl, rfl, rfl⟩⟩
    clear h hP hP0 hb hm hr hnN h512
    go_enter Try.func32, Try.ntmps32
    go_wp2_with fail
    refine hI.out.mono ?_
    rintro e w1 ⟨rfl, rfl⟩
    go_wp2_with fail
    refine hH.out.mono ?_
    rintro e w1 ⟨rfl, h1, h2⟩
    have hfin := Lib.hid (hO.out w1 h1 h2)
    clear h1 h2 hO hH
    go_wp2
    go_ret2
    exact hfin.out
  have hH := Lib.hid (hitNo_calls w h n (by omega) hm)
  have hd0 : w.drew.cell? ⟨gc, 0, none⟩ = some (.pointer (some ⟨g, 0, none⟩)) := by
    obtain ⟨p, q, hB⟩ := h.km.cb
    exact hB.cell 0
  have hdr := Lib.hid (h.below (drew_below w))
  have hRd := Lib.hid (Read_calls w.drew g d S hdr.out.dk (n : Int) (by rw [hdk.ll]; exact hN) (fun vs hvs => by have := waitP_le d hvs; have := hdk.wt; omega))
  have hf : c.l.find? (fun h => h.n == n) = none := by rw [← h.cl]; exact find_no hm
  have hlen : c.l.length = ns.length := by rw [← h.cl, List.length_map]
  rw [hf, hlen] at hP0
  have hP0 : getP c d N n = if (ns.length : Int) < c.size then (if d.off = true then (6, c, d) else holdP c d ⟨n, lastP d n, false, 0⟩ none) else match vicL c.l with
        | none => (13, c, d)
        | some x => if d.off = true then (6, c, d) else holdP c d ⟨n, lastP d n, false, 0⟩ (some x) := hP0
  clear hf hlen
  by_cases hs : (ns.length : Int) < c.size
  · rw [if_pos hs] at hP0
    have hV := Lib.hid (vicRoom_calls w h hs)
    clear hs
    by_cases hof : d.off = true
    · have hP : getP c d N n = (6, c, d) := by rw [hP0, if_pos hof]
      rw [hP]
      have ha : askP d n = 6 := by unfold askP; rw [if_pos hof]
      have hO : Hid (∀ e, e = .returned (.tuple #[.pointer none, .int .i64 6]) → GetOut w gc g mb N ns S (6, c, d) n e w.drew) := fun e he => ⟨ns, KTo.below h (drew_below w), .inr ⟨by show (6 : Int) ≠ 0; omega, he⟩⟩
      clear h hP hP0 hb hm hr h512 hdr
      go_enter Try.func32, Try.ntmps32
      go_wp2_with fail
      refine hI.out.mono ?_
      rintro e w1 ⟨rfl, rfl⟩
      go_wp2_with fail
      refine hH.out.mono ?_
      rintro e w1 ⟨rfl, rfl⟩
      go_wp2_with fail
      refine hV.out.mono ?_
      rintro e w1 ⟨rfl, rfl⟩
      go_wp2_with fail
      refine hRd.out.mono ?_
      rintro e w1 (⟨h9, _⟩ | ⟨_, rfl, rfl⟩)
      · rw [ha] at h9; cases h9
      rw [ha]
      go_wp2
      go_ret2
      exact hO.out _ rfl
    · have ha : askP d n = 0 := by
        unfold askP
        rw [if_neg hof, if_neg (by rw [hdk.ll]; omega)]
      have hP : getP c d N n = holdP c d ⟨n, lastP d n, false, 0⟩ none := by rw [hP0, if_neg hof]
      rw [hP]
      go_enter Try.func32, Try.ntmps32
      go_wp2_with fail
      refine hI.out.mono ?_
      rintro e w1 ⟨rfl, rfl⟩
      go_wp2_with fail
      refine hH.out.mono ?_
      rintro e w1 ⟨rfl, rfl⟩
      go_wp2_with fail
      refine hV.out.mono ?_
      rintro e w1 ⟨rfl, rfl⟩
      go_wp2_with fail
      refine hRd.out.mono ?_
      rintro e w1 (⟨_, x1, rfl, ho, hB1, _⟩ | ⟨h9, _⟩)
      rotate_left
      · exact absurd ha h9
      have hBa : Below w.heap.size w w1 := (drew_below w).trans hB1
      have hK1 := hdr.out.below hB1
      have hx1 : RdT (fun _ => True) 5 w1 x1 (bvs (lastP d (n : Int).toNat)) := RdT.of_own ho (fun _ _ => trivial)
      rw [Int.toNat_natCast] at hx1
      obtain ⟨xA, xc, rfl⟩ := hx1.shape
      have hn2 : Nod (w1.alloc (.cells #[.int .i64 (n : Int), .slice xA (bvs (lastP d n)).length xc, .bool false, .int .i64 0, .pointer none, .pointer none] 78)) w1.heap.size ⟨n, lastP d n, false, 0⟩ := ⟨_, none, none, Blk.new w1 _ _, hx1.alloc _⟩
      have hB2 : Below w1.heap.size w1 (w1.alloc (.cells #[.int .i64 (n : Int), .slice xA (bvs (lastP d n)).length xc, .bool false, .int .i64 0, .pointer none, .pointer none] 78)) := alloc_belowK _ _
      have hK2 := hK1.below hB2
      have hCl := Lib.hid (hold_calls w _ (hBa.trans (hB2.mono hBa.size)) (k := w1.heap.size) hBa.size hK2 hn2 (fun hmm => by have := hK1.lt (.inr (.inr hmm)); omega) hm hnN hN hdk h512 none (fun x hx => by cases hx))
      generalize lastP d n = bl at *
      generalize (bvs bl).length = ll at *
      clear ho hB1 hBa hK1 hx1 hn2 hB2 hK2 hRd hV hI hH
      go_wp2_with fail
      refine hCl.out.mono ?_
      rintro e w3 ⟨rfl, ns', hto, h0⟩
      have hto := Lib.hid hto
      have h0 := Lib.hid h0
      clear hCl
      simp only [Option.map_some, Option.map_none] at hto h0 ⊢
      by_cases hq : (holdP c d ⟨n, bl, false, 0⟩ none).1 = 0
      · obtain ⟨r, hr0⟩ := h0.out hq
        have hfin : Hid (GetOut w gc g mb N ns S (holdP c d ⟨n, bl, false, 0⟩ none) n (.returned (.tuple #[.pointer (some ⟨w1.heap.size, 0, none⟩), .int .i64 0])) w3) := ⟨ns', hto.out, .inl ⟨hq, _, _, r, hr0, rfl, rfl⟩⟩
        rw [hq]
        clear hto h0 hr0
        go_wp2
        go_ret2
        exact hfin.out
      · have hfin : Hid (GetOut w gc g mb N ns S (holdP c d ⟨n, bl, false, 0⟩ none) n (.returned (.tuple #[.pointer none, .int .i64 (holdP c d ⟨n, bl, false, 0⟩ none).1])) w3) := ⟨ns', hto.out, .inr ⟨hq, rfl⟩⟩
        have hqb : (((holdP c d ⟨n, bl, false, 0⟩ none).1 : Int) != 0) = true := by simpa using hq
        clear hto h0
        go_wp2
        go_ret2
        exact hfin.out
  · rw [if_neg hs] at hP0
    have hV := Lib.hid (victim_calls w h hs)
    have hvl : vicL c.l = (vicP ns).map (·.2) := by rw [← h.cl]; exact vicL_of ns
    rw [hvl] at hP0
    clear hs hvl
    cases hvp : vicP ns with
    | none =>
      rw [hvp] at hP0 hV
      have hP : getP c d N n = (13, c, d) := hP0
      rw [hP]
      have hO : Hid (∀ e, e = .returned (.tuple #[.pointer none, .int .i64 13]) → GetOut w gc g mb N ns S (13, c, d) n e w.drew) := fun e he => ⟨ns, KTo.below h (drew_below w), .inr ⟨by show (13 : Int) ≠ 0; omega, he⟩⟩
      clear h hP hP0 hb hm hr h512 hdr hvp
      unfold vicV at hV
      go_enter Try.func32, Try.ntmps32
      go_wp2_with fail
      refine hI.out.mono ?_
      rintro e w1 ⟨rfl, rfl⟩
      go_wp2_with fail
      refine hH.out.mono ?_
      rintro e w1 ⟨rfl, rfl⟩
      go_wp2_with fail
      refine hV.out.mono ?_
      rintro e w1 ⟨rfl, rfl⟩
      go_wp2
      go_ret2
      exact hO.out _ rfl
    | some x =>
      rw [hvp] at hP0 hV
      have hP0 : getP c d N n = if d.off = true then (6, c, d) else holdP c d ⟨n, lastP d n, false, 0⟩ (some x.2) := hP0
      have hxm : x ∈ ns := by
        obtain ⟨u, v, e, _⟩ := vicP_split hvp
        rw [e]
        simp
      unfold vicV at hV
      clear hvp
      by_cases hof : d.off = true
      · have hP : getP c d N n = (6, c, d) := by rw [hP0, if_pos hof]
        rw [hP]
        have ha : askP d n = 6 := by unfold askP; rw [if_pos hof]
        have hO : Hid (∀ e, e = .returned (.tuple #[.pointer none, .int .i64 6]) → GetOut w gc g mb N ns S (6, c, d) n e w.drew) := fun e he => ⟨ns, KTo.below h (drew_below w), .inr ⟨by show (6 : Int) ≠ 0; omega, he⟩⟩
        clear h hP hP0 hb hm hr h512 hdr
        go_enter Try.func32, Try.ntmps32
        go_wp2_with fail
        refine hI.out.mono ?_
        rintro e w1 ⟨rfl, rfl⟩
        go_wp2_with fail
        refine hH.out.mono ?_
        rintro e w1 ⟨rfl, rfl⟩
        go_wp2_with fail
        refine hV.out.mono ?_
        rintro e w1 ⟨rfl, rfl⟩
        go_wp2_with fail
        refine hRd.out.mono ?_
        rintro e w1 (⟨h9, _⟩ | ⟨_, rfl, rfl⟩)
        · rw [ha] at h9; cases h9
        rw [ha]
        go_wp2
        go_ret2
        exact hO.out _ rfl
      · have ha : askP d n = 0 := by
          unfold askP
          rw [if_neg hof, if_neg (by rw [hdk.ll]; omega)]
        have hP : getP c d N n = holdP c d ⟨n, lastP d n, false, 0⟩ (some x.2) := by rw [hP0, if_neg hof]
        rw [hP]
        go_enter Try.func32, Try.ntmps32
        go_wp2_with fail
        refine hI.out.mono ?_
        rintro e w1 ⟨rfl, rfl⟩
        go_wp2_with fail
        refine hH.out.mono ?_
        rintro e w1 ⟨rfl, rfl⟩
        go_wp2_with fail
        refine hV.out.mono ?_
        rintro e w1 ⟨rfl, rfl⟩
        go_wp2_with fail
        refine hRd.out.mono ?_
        rintro e w1 (⟨_, x1, rfl, ho, hB1, _⟩ | ⟨h9, _⟩)
        rotate_left
        · exact absurd ha h9
        have hBa : Below w.heap.size w w1 := (drew_below w).trans hB1
        have hK1 := hdr.out.below hB1
        have hx1 : RdT (fun _ => True) 5 w1 x1 (bvs (lastP d (n : Int).toNat)) := RdT.of_own ho (fun _ _ => trivial)
        rw [Int.toNat_natCast] at hx1
        obtain ⟨xA, xc, rfl⟩ := hx1.shape
        have hn2 : Nod (w1.alloc (.cells #[.int .i64 (n : Int), .slice xA (bvs (lastP d n)).length xc, .bool false, .int .i64 0, .pointer none, .pointer none] 78)) w1.heap.size ⟨n, lastP d n, false, 0⟩ := ⟨_, none, none, Blk.new w1 _ _, hx1.alloc _⟩
        have hB2 : Below w1.heap.size w1 (w1.alloc (.cells #[.int .i64 (n : Int), .slice xA (bvs (lastP d n)).length xc, .bool false, .int .i64 0, .pointer none, .pointer none] 78)) := alloc_belowK _ _
        have hK2 := hK1.below hB2
        have hCl := Lib.hid (hold_calls w _ (hBa.trans (hB2.mono hBa.size)) (k := w1.heap.size) hBa.size hK2 hn2 (fun hmm => by have := hK1.lt (.inr (.inr hmm)); omega) hm hnN hN hdk h512 (some x) (fun y hy => by cases hy; exact hxm))
        generalize lastP d n = bl at *
        generalize (bvs bl).length = ll at *
        clear ho hB1 hBa hK1 hx1 hn2 hB2 hK2 hRd hV hI hH
        go_wp2_with fail
        refine hCl.out.mono ?_
        rintro e w3 ⟨rfl, ns', hto, h0⟩
        have hto := Lib.hid hto
        have h0 := Lib.hid h0
        clear hCl
        simp only [Option.map_some, Option.map_none] at hto h0 ⊢
        by_cases hq : (holdP c d ⟨n, bl, false, 0⟩ (some x.2)).1 = 0
        · obtain ⟨r, hr0⟩ := h0.out hq
          have hfin : Hid (GetOut w gc g mb N ns S (holdP c d ⟨n, bl, false, 0⟩ (some x.2)) n (.returned (.tuple #[.pointer (some ⟨w1.heap.size, 0, none⟩), .int .i64 0])) w3) := ⟨ns', hto.out, .inl ⟨hq, _, _, r, hr0, rfl, rfl⟩⟩
          rw [hq]
          clear hto h0 hr0
          go_wp2
          go_ret2
          exact hfin.out
        · have hfin : Hid (GetOut w gc g mb N ns S (holdP c d ⟨n, bl, false, 0⟩ (some x.2)) n (.returned (.tuple #[.pointer none, .int .i64 (holdP c d ⟨n, bl, false, 0⟩ (some x.2)).1])) w3) := ⟨ns', hto.out, .inr ⟨hq, rfl⟩⟩
          have hqb : (((holdP c d ⟨n, bl, false, 0⟩ (some x.2)).1 : Int) != 0) = true := by simpa using hq
          clear hto h0
          go_wp2
          go_ret2
          exact hfin.out
end Go.Proofs.Ytfapehgjiglflaa
