/- The log: Sync. Printed by genwj.py. -/
import Derived.Test.YtefbmbfhhhjgkaaWi
namespace Go.Proofs.Ytefbmbfhhhjgkaa
open Go.RowKit Go.Maps Go.Sort Go.Shelf
/-- The numbers of the blocks that wait, rising. -/
def ksW (N : Nat) (f : Nat → Option (List UInt8)) : List Nat := (List.range N).filter fun k => (f k).isSome
theorem mem_ksW {N : Nat} {f : Nat → Option (List UInt8)} {k : Nat} : k ∈ ksW N f ↔ k < N ∧ (f k).isSome = true := by
  unfold ksW
  rw [List.mem_filter, List.mem_range]
def lsyncP (x : Lk) : Int × Lk :=
  if x.d.off = true then (6, x) else if ksW (x.d.l.length - 65) x.wt = [] then (0, ⟨x.d, fun _ => none, 0, x.op⟩) else
    if (lsyncW (ksW (x.d.l.length - 65) x.wt) x.wt x.d).1 = 0 then (0, ⟨(lsyncW (ksW (x.d.l.length - 65) x.wt) x.wt x.d).2, fun _ => none, 0, x.op⟩)
    else ((lsyncW (ksW (x.d.l.length - 65) x.wt) x.wt x.d).1, ⟨(lsyncW (ksW (x.d.l.length - 65) x.wt) x.wt x.d).2, x.wt, x.pn, x.op⟩)
theorem DO.wide {w : World} {g : Nat} {d : Dk} {S F F' : Nat → Prop} (h : DO w g d S F) (hF : ∀ k, F k → F' k) (hl : ∀ k, F' k → k < w.heap.size) : DO w g d S F' := ⟨h.dk.wider fun k hk _ => hF k hk, hl⟩
theorem WroteO.wide {w w' : World} {S F : Nat → Prop} {g : Nat} {d : Dk} (h : WroteO w S F g d w') (hfl : ∀ k, F k → k < w.heap.size) : ∃ S' F', DO w' g d S' F' ∧ Chg S w w' ∧ (∀ k, S' k → S k ∨ w.heap.size ≤ k) ∧ (∀ k, F' k → F k ∨ w.heap.size ≤ k) ∧ ∀ k, F k → F' k := by
  obtain ⟨S', F', h1, h2, h3, h4⟩ := h
  refine ⟨S', fun k => F' k ∨ F k, h1.wide (fun k hk => .inl hk) (fun k hk => ?_), h2, h3, fun k hk => ?_, fun k hk => .inr hk⟩
  · rcases hk with hk | hk
    · exact h1.fl k hk
    · exact Nat.lt_of_lt_of_le (hfl k hk) h2.size
  · rcases hk with hk | hk
    · exact h4 k hk
    · exact .inl hk
/-- While what has waited is struck: k of its numbers are done. -/
structure DInv (w wr : World) (S F : Nat → Prop) (gl g mb bl bn : Nat) (v : Value) (ns : List Nat) (N : Nat) (x : Lk) (d : Dk) (k : Nat) : Prop where
  ex : ∃ mf Sn Fn, DO wr g d Sn Fn ∧ MBv Fn wr mb N mf (fun j => if j ∈ ns.take k then none else x.wt j) ∧ ¬ Sn gl ∧ ¬ Sn mb ∧ (∀ j, Sn j ∨ j = gl ∨ j = mb → S j ∨ w.heap.size ≤ j) ∧ ∀ j, Fn j → F j ∨ w.heap.size ≤ j
  lg : Blk wr gl 74 #[.pointer (some ⟨g, 0, none⟩), .map (some mb), .int .i64 x.pn, .bool x.op]
  ch : Chg S w wr
  bl : Blk wr bl 24 #[.pointer (some ⟨gl, 0, none⟩)]
  bn : Blk wr bn 22 #[v]
  rd : Rd wr v (nvs ns)
theorem DInv.im {w wr : World} {S F : Nat → Prop} {gl g mb bl bn : Nat} {v : Value} {ns : List Nat} {N : Nat} {x : Lk} {d : Dk} {k : Nat} (h : DInv w wr S F gl g mb bl bn v ns N x d k) : ∃ mf, IM Try.prog 3 wr mb N mf := by
  obtain ⟨mf, _, _, _, h2, _⟩ := h.ex
  exact ⟨mf, h2.im⟩
theorem DInv.del {w wr : World} {S F : Nat → Prop} {gl g mb bl bn : Nat} {v : Value} {ns : List Nat} {N : Nat} {x : Lk} {d : Dk} {k : Nat} (h : DInv w wr S F gl g mb bl bn v ns N x d k) (hk : k < ns.length) (hv : ∀ j, v.ownBlock = some j → j ≠ mb) (hS : S mb) :
    ∃ mf, IM Try.prog 3 wr mb N mf ∧ ∀ w', IM Try.prog 3 w' mb N (fun j => if j = ns[k]'hk then none else mf j) → wr.mapTurned w' mb → DInv w w' S F gl g mb bl bn v ns N x d (k + 1) := by
  obtain ⟨mf, Sn, Fn, h1, h2, h3, h4, h5, h6⟩ := h.ex
  refine ⟨mf, h2.im, fun w' hi ht => ?_⟩
  have hc : Chg (fun j => j = mb) wr w' := Chg.turned ht rfl
  have h8 : ∀ k t cs, Blk wr k t cs → ¬ k = mb := fun k t cs hb => h2.im.blk_ne hb
  refine ⟨⟨fun j => if j = ns[k]'hk then none else mf j, Sn, Fn, h1.chgT hc (fun j hj e => h4 (e ▸ hj)) (fun k cs hb => h8 k _ cs hb) (fun k cs hb => h8 k _ cs hb), ?_, h3, h4, h5, h6⟩, h.lg.chg hc (h8 _ _ _ h.lg), h.ch.then_ hc (fun i _ hi => hi ▸ hS), h.bl.chg hc (h8 _ _ _ h.bl), h.bn.chg hc (h8 _ _ _ h.bn), h.rd.chg hc (fun j hj => hv j hj)⟩
  have := h2.del hi ht
  have e : (fun j => if j = ns[k]'hk then none else if j ∈ ns.take k then none else x.wt j) = fun j => if j ∈ ns.take (k + 1) then none else x.wt j := by
    funext j
    rw [List.take_succ_eq_append_getElem hk]
    by_cases e1 : j = ns[k]'hk
    · rw [if_pos e1, if_pos (List.mem_append_right _ (List.mem_singleton.2 e1))]
    · rw [if_neg e1]
      by_cases e2 : j ∈ ns.take k
      · rw [if_pos e2, if_pos (List.mem_append_left _ e2)]
      · rw [if_neg e2, if_neg]
        rw [List.mem_append, List.mem_singleton]
        exact fun h => h.elim e2 e1
  rw [e] at this
  exact this
theorem DInv.fin {w wr : World} {S F : Nat → Prop} {gl g mb bl bn : Nat} {v : Value} {ns : List Nat} {N : Nat} {x : Lk} {d : Dk} (h : DInv w wr S F gl g mb bl bn v ns N x d ns.length) (hns : ns = ksW N x.wt) (hN : N = d.l.length - 65) (hoff : ∀ k, N ≤ k → x.wt k = none) (hS : S gl) :
    LWrote w S F gl g ⟨d, fun _ => none, 0, x.op⟩ (wr.setCell ⟨gl, 2, none⟩ (.int .i64 0)) := by
  obtain ⟨mf, Sn, Fn, h1, h2, h3, h4, h5, h6⟩ := h.ex
  have hc : Chg (fun j => j = gl) wr (wr.setCell ⟨gl, 2, none⟩ (.int .i64 0)) := chg_set ⟨gl, 2, none⟩ _
  have hne : ∀ k t cs, Blk wr k t cs → t ≠ 74 → ¬ k = gl := fun k t cs hb ht => hb.ne_ h.lg ht
  refine ⟨_, Fn, ⟨mb, mf, Sn, ⟨?_, ?_, ?_, h3, h4⟩, fun k => Iff.rfl⟩, h.ch.then_ hc (fun i _ hi => hi ▸ hS), fun k hk => h5 k hk, h6⟩
  · exact h.lg.set_ 2 _
  · exact h1.chgT hc (fun j hj e => h3 (e ▸ hj)) (fun k cs hb => hne k _ cs hb (by decide)) (fun k cs hb => hne k _ cs hb (by decide))
  · have e : (fun j => if j ∈ ns.take ns.length then none else x.wt j) = fun _ => none := by
      funext j
      rw [List.take_length]
      by_cases e1 : j ∈ ns
      · rw [if_pos e1]
      · rw [if_neg e1]
        rcases Nat.lt_or_ge j N with hj | hj
        · cases hx : x.wt j with
          | none => rfl
          | some b => exact absurd (by rw [hns, mem_ksW]; exact ⟨hj, by rw [hx]; rfl⟩) e1
        · exact hoff j hj
    rw [e, hN] at h2
    exact h2.chg hc (fun e => h.lg.lt |> fun _ => h2.im.blk_ne h.lg e.symm) (fun k cs hb => hne k _ cs hb (by decide))
set_option maxRecDepth 10000 in
set_option maxHeartbeats 16000000 in
theorem LSync_calls (w : World) {gl g N M : Nat} {x : Lk} {S F : Nat → Prop} (h : LO w gl g x S F) (hf : Fit N M x.d) (hM : M ≤ 800000000) (hN : N ≤ 16384) (hkl : (ksW (N - 65) x.wt).length ≤ 63) :
    Calls Try.prog 29 #[.pointer (some ⟨gl, 0, none⟩)] w fun e w' => e = .returned (.int .i64 (lsyncP x).1) ∧ LWrote w S F gl g (lsyncP x).2 w' := by
  obtain ⟨mb, mf, Sd, hL, hs⟩ := h
  obtain ⟨bl, hbl⟩ : ∃ b, b = w.heap.size := ⟨_, rfl⟩
  obtain ⟨wb, hwb⟩ : ∃ wb, wb = w.alloc (.cells #[.pointer (some ⟨gl, 0, none⟩)] 24) := ⟨_, rfl⟩
  have hbB : Below w.heap.size w wb := by rw [hwb]; exact (Below.refl _ _).alloc (Nat.le_refl _) _
  have hbs : wb.heap.size = w.heap.size + 1 := by rw [hwb, World.size_alloc]
  have hLb := hL.below hbB
  have hbb : Blk wb bl 24 #[.pointer (some ⟨gl, 0, none⟩)] := by rw [hwb, hbl]; exact Blk.new _ _ _
  have c0 : wb.cell? ⟨bl, 0, none⟩ = some (.pointer (some ⟨gl, 0, none⟩)) := hbb.cell 0
  have c1 : wb.cell? ⟨gl, 0, none⟩ = some (.pointer (some ⟨g, 0, none⟩)) := hLb.blk.cell 0
  have c2 : wb.cell? ⟨gl, 1, none⟩ = some (.map (some mb)) := hLb.blk.cell 1
  have hcs := Lib.hid (And.intro c0 (And.intro c1 c2))
  rw [hwb] at c1 c2
  have hO := Off_callsO wb g x.d Sd hLb.dk
  obtain ⟨o, ho⟩ : ∃ o, Hid (lsyncP x = o) := ⟨_, Lib.hid rfl⟩
  rw [ho.out]
  have hstep : Hid ((if x.d.off = true then (6, x) else if ksW (N - 65) x.wt = [] then (0, ⟨x.d, fun _ => none, 0, x.op⟩) else
      if (lsyncW (ksW (N - 65) x.wt) x.wt x.d).1 = 0 then (0, ⟨(lsyncW (ksW (N - 65) x.wt) x.wt x.d).2, fun _ => none, 0, x.op⟩)
      else ((lsyncW (ksW (N - 65) x.wt) x.wt x.d).1, ⟨(lsyncW (ksW (N - 65) x.wt) x.wt x.d).2, x.wt, x.pn, x.op⟩)) = o) := by
    show _ = _
    rw [← ho.out]
    unfold lsyncP
    rw [hf.dl]
  have hmpN : MBv F w mb (N - 65) mf x.wt := by rw [← hf.dl]; exact hL.mp
  have hmpb := hmpN.below hbB
  obtain ⟨D, hown, hKD⟩ := hmpb.im
  have hszD : Maps.size D ≤ N - 65 := hKD.size_le
  have HK := Lib.hid (keysB_calls wb (some mb))
  have HS := Lib.hid (sortedB_calls mb _ D rawR wb hown (by unfold maxLen; omega) (by omega))
  have hfe : (fun k => (mf k).isSome) = fun k => (x.wt k).isSome := funext hmpN.some_iff
  have hKDs : Hid (∀ ss : List Int, ss.Perm (intKeys D) → ss.mergeSort (fun x y => decide (x ≤ y)) = (ksW (N - 65) x.wt).map Int.ofNat) := fun ss hss => by
    have := KD.sorted hKD (ss := ss) hss
    rw [hfe] at this
    exact this
  have hLh := Lib.hid hL
  have hsh := Lib.hid hs
  have hfh := Lib.hid hf
  have hMh := Lib.hid hM
  have hNh := Lib.hid hN
  have hmpNh := Lib.hid hmpN
  have hlw : Hid (gl < w.heap.size ∧ mb < w.heap.size ∧ (∀ k, Sd k → k < w.heap.size) ∧ S gl ∧ S mb) := ⟨hL.blk.lt, hL.mp.im.lt, fun k hk => hL.dk.lt hk, (hs gl).2 (.inr (.inl rfl)), (hs mb).2 (.inr (.inr rfl))⟩
  obtain ⟨ns, hns⟩ : ∃ ns, Hid (ns = ksW (N - 65) x.wt) := ⟨_, Lib.hid rfl⟩
  rw [← hns.out] at hkl hKDs hstep
  have hklh := Lib.hid hkl
  have hnN : Hid (∀ n ∈ ns, n < N - 65) := fun n hn => by rw [hns.out, mem_ksW] at hn; exact hn.1
  replace hbB := Lib.hid hbB
  replace hbs := Lib.hid hbs
  have hbbh := Lib.hid hbb
  obtain ⟨off, hoff⟩ : ∃ b, Hid (x.d.off = b) := ⟨_, Lib.hid rfl⟩
  rw [hoff.out] at hO hstep
  clear hL hs hf hM hmpN hmpb hown hKD hfe hLb ho hbb hkl hszD
  go_enter Try.func29, Try.ntmps29
  go_wp2_with fail
  rw [← hwb, ← hbl]
  replace hbl : Hid (bl = w.heap.size) := hbl
  clear hwb c0 c1 c2
  obtain ⟨c0, c1, c2⟩ := hcs.out
  refine hO.mono ?_
  rintro e w1 ⟨rfl, rfl⟩
  clear hO
  cases off with
  | true =>
    have hfin : Hid (o.1 = 6 ∧ LWrote w S F gl g o.2 wb) := by
      have h := hstep.out
      rw [if_pos rfl] at h
      rw [← h]
      exact ⟨rfl, S, F, ⟨mb, mf, Sd, hLh.out.below hbB.out, hsh.out⟩, ((Chg.of_below hbB.out : Chg (fun _ => False) w wb)).mono (fun _ _ h => h.elim), fun _ h => .inl h, fun _ h => .inl h⟩
    clear hstep HK HS
    go_wp2
    go_ret
    exact ⟨by rw [hfin.out.1]; rfl, hfin.out.2⟩
  | false =>
    have hst2 : Hid ((if ns = [] then (0, ⟨x.d, fun _ => none, 0, x.op⟩) else
      if (lsyncW ns x.wt x.d).1 = 0 then (0, ⟨(lsyncW ns x.wt x.d).2, fun _ => none, 0, x.op⟩)
      else ((lsyncW ns x.wt x.d).1, ⟨(lsyncW ns x.wt x.d).2, x.wt, x.pn, x.op⟩)) = o) := by
      have h := hstep.out
      rw [if_neg (by decide)] at h
      exact h
    clear hstep
    go_wp2_with fail
    refine HK.out.mono ?_
    rintro e w2 ⟨rfl, rfl⟩
    go_wp2_with fail
    refine HS.out.mono ?_
    rintro e w3 ⟨v, ss, rfl, hS2, hrow, hB3⟩
    have hks := hKDs.out ss hS2
    have hlen : ss.length = ns.length := by
      have := congrArg List.length hks
      rw [List.length_mergeSort, List.length_map] at this
      exact this
    rw [hks, hlen] at hrow
    have hrow : w3.ownsRow (wb.heap.size + 1) 3 1 v ns.length (nvs ns) := by
      have e : (List.map Int.ofNat ns).map encZ = nvs ns := by rw [List.map_map]; rfl
      rw [e] at hrow
      exact hrow
    have hB3b : Below wb.heap.size wb w3 := ((Below.refl _ _).alloc (Nat.le_refl _) _).trans (hB3.mono (Nat.le_succ _))
    have hB3w : Below w.heap.size w w3 := hbB.out.trans (hB3b.mono (by have := hbs.out; omega))
    have hvn : Hid (∀ j, v.ownBlock = some j → w.heap.size ≤ j) := fun j hj => by
      have := own_geI hrow j hj
      have := hbs.out
      omega
    have hvl : Hid (∀ j, v.ownBlock = some j → j < w3.heap.size) := fun j hj => (World.ownsRow.lt hrow j hj).2
    obtain ⟨kA, kc, rfl⟩ := own_shape hrow
    have hrd := Rd.of_own hrow
    obtain ⟨q, hq⟩ : ∃ q, Hid (ns.length = q) := ⟨_, Lib.hid rfl⟩
    rw [hq.out] at hrd hvn hvl ⊢
    obtain ⟨bn, hbn⟩ : ∃ b, b = w3.heap.size := ⟨_, rfl⟩
    obtain ⟨w4, hw4⟩ : ∃ w', w' = w3.alloc (.cells #[.slice kA q kc] 22) := ⟨_, rfl⟩
    have hB4a : Below w3.heap.size w3 w4 := by rw [hw4]; exact (Below.refl _ _).alloc (Nat.le_refl _) _
    have hw4s : Hid (w4.heap.size = bn + 1) := by show _ = _; rw [hw4, World.size_alloc, hbn]
    have hB4 : Below w.heap.size w w4 := hB3w.trans (hB4a.mono hB3w.size)
    have hb4n : Blk w4 bn 22 #[.slice kA q kc] := by rw [hw4, hbn]; exact Blk.new _ _ _
    have hb4l : Blk w4 bl 24 #[.pointer (some ⟨gl, 0, none⟩)] := hbbh.out.chg (Chg.of_below (hB3b.trans (hB4a.mono hB3b.size))) (S := fun _ => False) id
    have hL4 := hLh.out.below hB4
    have hmp4 := hmpNh.out.below hB4
    have hrd4 := hrd.below hB4a
    have hql : q ≤ 63 := by rw [← hq.out]; exact hklh.out
    have cl0 : w4.cell? ⟨bl, 0, none⟩ = some (.pointer (some ⟨gl, 0, none⟩)) := hb4l.cell 0
    have cl1 : w4.cell? ⟨gl, 0, none⟩ = some (.pointer (some ⟨g, 0, none⟩)) := hL4.blk.cell 0
    have cn0 : w4.cell? ⟨bn, 0, none⟩ = some (.slice kA q kc) := hb4n.cell 0
    have hvl4 : Hid (∀ j, (Value.slice kA q kc).ownBlock = some j → j < w4.heap.size) := fun j hj => Nat.lt_of_lt_of_le (hvl.out j hj) hB4a.size
    have hbn4 : Hid (w.heap.size ≤ bn ∧ bn < w4.heap.size ∧ w.heap.size ≤ bl) := ⟨by rw [hbn]; exact hB3w.size, hb4n.lt, Nat.le_of_eq hbl.out.symm⟩
    replace hb4n := Lib.hid hb4n
    replace hb4l := Lib.hid hb4l
    replace hL4 := Lib.hid hL4
    replace hmp4 := Lib.hid hmp4
    replace hrd4 := Lib.hid hrd4
    replace hB4 := Lib.hid hB4
    have hmm : Hid (∀ j, (Value.slice kA q kc).ownBlock = some j → j ≠ mb) := fun j hj e => by have := hvn.out j hj; have := hlw.out.2.1; omega
    clear HK HS hS2 hks hlen hrow hB3 hB3b hrd hKDs hvl hB4a hB3w hbs hbbh hbB c0 c1 c2
    rw [hw4] at cl0 cl1 cn0
    rw [hbn] at cn0
    replace hbn : Hid (bn = w3.heap.size) := hbn
    by_cases hn0 : ns = []
    · have hqn : ¬ ((0 : Int) < (q : Int)) := by
        have : q = 0 := by rw [← hq.out, hn0]; rfl
        omega
      have hod : Hid (((0 : Int), (⟨x.d, fun _ => none, 0, x.op⟩ : Lk)) = o) := by
        have h := hst2.out
        rw [if_pos hn0] at h
        exact h
      have hI0 : Hid (DInv w w4 S F gl g mb bl bn (.slice kA q kc) ns (N - 65) x x.d 0) := by
        refine ⟨⟨mf, Sd, F, hL4.out.dk, ?_, hL4.out.ng, hL4.out.nm, fun j hj => .inl ((hsh.out j).2 hj), fun j hj => .inl hj⟩, hL4.out.blk, ((Chg.of_below hB4.out : Chg (fun _ => False) w w4)).mono (fun _ _ h => h.elim), hb4l.out, hb4n.out, hrd4.out⟩
        have e : (fun j => if j ∈ ns.take 0 then none else x.wt j) = x.wt := by funext j; simp
        rw [e]
        exact hmp4.out
      have hdl : Hid (x.d.l.length = N) := hfh.out.dl
      obtain ⟨dd, hdd⟩ : ∃ d, Hid (x.d = d) := ⟨_, Lib.hid rfl⟩
      rw [hdd.out] at hI0 hod hdl
      clear hst2 hn0 hL4 hmp4 hrd4 hb4n hb4l hB4
      go_wp2
      rw [← hw4, ← hbn.out]
      clear hw4 cl0 cl1 cn0 hqn
      have h0 := hI0
      clear hI0
      go_loopw [38] (fun iv wr => ∃ k : Nat, k ≤ q ∧ iv = .int .i64 (k : Int) ∧ Hid (DInv w wr S F gl g mb bl bn (.slice kA q kc) ns (N - 65) x dd k)) (fun iv _ => q - (RowKit.intOf iv).toNat)
      case atStart => exact ⟨0, Nat.zero_le _, rfl, h0⟩
      case round =>
        obtain ⟨k, hk, rfl, hI⟩ := hrel
        clear h0
        by_cases hkq : k < q
        · exfalso; omega
        · obtain rfl : k = q := by omega
          have d0 : wr.cell? ⟨bl, 0, none⟩ = some (.pointer (some ⟨gl, 0, none⟩)) := hI.out.bl.cell 0
          have d2 : wr.cell? ⟨gl, 2, none⟩ = some (.int .i64 x.pn) := hI.out.lg.cell 2
          have d5 : wr.cell? ⟨gl, 0, none⟩ = some (.pointer (some ⟨g, 0, none⟩)) := hI.out.lg.cell 0
          have d3 : wr.frozen? ⟨gl, 2, none⟩ = false := hI.out.lg.frozen 2
          have hI2 : Hid (DInv w wr S F gl g mb bl bn (.slice kA k kc) ns (N - 65) x dd ns.length) := by
            have := hI.out
            rw [hq.out]
            exact this
          have hfin : Hid (o.1 = 0 ∧ LWrote w S F gl g o.2 (wr.setCell ⟨gl, 2, none⟩ (.int .i64 0))) := by
            have h := hI2.out.fin hns.out (by rw [hdl.out]) (fun k hk => hmpNh.out.off hk) hlw.out.2.2.2.1
            rw [← hod.out]
            exact ⟨rfl, h⟩
          clear hI hI2
          go_wp2
          go_ret
          exact ⟨by rw [hfin.out.1]; rfl, hfin.out.2⟩
    · have hqp : (0 : Int) < (q : Int) := by
        have : ns.length ≠ 0 := fun e => hn0 (List.eq_nil_of_length_eq_zero e)
        rw [hq.out] at this
        omega
      have hst3 : Hid ((if (lsyncW ns x.wt x.d).1 = 0 then ((0 : Int), (⟨(lsyncW ns x.wt x.d).2, fun _ => none, 0, x.op⟩ : Lk))
      else ((lsyncW ns x.wt x.d).1, ⟨(lsyncW ns x.wt x.d).2, x.wt, x.pn, x.op⟩)) = o) := by
        have h := hst2.out
        rw [if_neg hn0] at h
        exact h
      clear hst2 hn0
      go_wp2_with fail
      rw [← hw4, ← hbn.out]
      clear hw4 cl0 cl1 cn0 hqp
      have hbnq := hbn4.out
      obtain ⟨w5, hw5⟩ : ∃ w5, w5 = w4.alloc (.cells #[.func (.func 62) #[] #[.pointer (some ⟨bn, 0, none⟩), .pointer (some ⟨bl, 0, none⟩)], .func (.func 56) #[.pointer (some ⟨g, 0, none⟩)] #[], .func (.func 63) #[] #[.pointer (some ⟨bl, 0, none⟩), .pointer (some ⟨bn, 0, none⟩)], .func (.func 64) #[] #[.pointer (some ⟨bl, 0, none⟩), .pointer (some ⟨bn, 0, none⟩)]] 46) := ⟨_, rfl⟩
      rw [← hw5]
      have hB5a : Below w4.heap.size w4 w5 := by rw [hw5]; exact (Below.refl _ _).alloc (Nat.le_refl _) _
      have hB5 : Below w.heap.size w w5 := hB4.out.trans (hB5a.mono hB4.out.size)
      have hx5 : Rd w5 (.slice (some ⟨w4.heap.size, 0, none⟩) 4 4) [.func (.func 62) #[] #[.pointer (some ⟨bn, 0, none⟩), .pointer (some ⟨bl, 0, none⟩)], .func (.func 56) #[.pointer (some ⟨g, 0, none⟩)] #[], .func (.func 63) #[] #[.pointer (some ⟨bl, 0, none⟩), .pointer (some ⟨bn, 0, none⟩)], .func (.func 64) #[] #[.pointer (some ⟨bl, 0, none⟩), .pointer (some ⟨bn, 0, none⟩)]] := by rw [hw5]; exact rd_new w4 [.func (.func 62) #[] #[.pointer (some ⟨bn, 0, none⟩), .pointer (some ⟨bl, 0, none⟩)], .func (.func 56) #[.pointer (some ⟨g, 0, none⟩)] #[], .func (.func 63) #[] #[.pointer (some ⟨bl, 0, none⟩), .pointer (some ⟨bn, 0, none⟩)], .func (.func 64) #[] #[.pointer (some ⟨bl, 0, none⟩), .pointer (some ⟨bn, 0, none⟩)]] 46 4 rfl
      have hL5 := hL4.out.below hB5a
      have hSE : SEnv w5 g gl bn bl (.slice kA q kc) ns := ⟨hb4n.out.chg (Chg.of_below hB5a) (S := fun _ => False) id, hb4l.out.chg (Chg.of_below hB5a) (S := fun _ => False) id, ⟨_, hL5.blk, rfl⟩, hrd4.out.below hB5a⟩
      have hLE : LEnv w5 g gl mb bn bl (N - 65) mf x.wt (.slice kA q kc) ns := ⟨hSE, ⟨_, hL5.blk, rfl⟩, (hmp4.out.below hB5a).wider fun _ _ _ => trivial⟩
      have hSK : SKeep gl bn bl (.slice kA q kc) Sd := ⟨fun h => by have := hlw.out.2.2.1 _ h; omega, fun h => by have := hlw.out.2.2.1 _ h; omega, hL5.ng, fun j hj h => by have := hlw.out.2.2.1 _ h; have := hvn.out j hj; omega⟩
      have hLK : LKeep w5 gl mb bn bl (.slice kA q kc) Sd := ⟨hSK, hL5.nm, hL5.dk.not8⟩
      have hxl5 : ∀ j, (Value.slice kA q kc).ownBlock = some j → j < w5.heap.size := fun j hj => Nat.lt_of_lt_of_le (hvl4.out j hj) hB5a.size
      have hall := Lib.hid (all_calls w5 _ _ hx5 hL5.dk (fun j hj hs => by
        have hj : w4.heap.size = j := by simpa [Value.ownBlock] using hj
        have := hlw.out.2.2.1 _ hs
        have := hB4.out.size
        omega) [copiesW ns x.wt, syncW, wrW 0 (headP ns), settleW ns] rfl (g := g) (N := N) (B := 850000000) (fun i h h' => by
          rcases i with _ | _ | _ | _ | i
          · exact y1_step w5 Sd g gl mb N (N - 65) bn bl mf x.wt _ ns hNh.out (by omega) hLE hLK hxl5 hklh.out (fun n hn => by
              have h2 := hnN.out n hn
              rw [hns.out, mem_ksW] at hn
              exact ⟨by have := hNh.out; omega, hn.2⟩)
          · exact sync_step w5 Sd g N hNh.out (by omega)
          · exact y2_step w5 Sd g gl N bn bl _ ns hNh.out (by omega) hSE hSK hxl5 hklh.out
          · exact y3_step w5 Sd g gl N bn bl _ ns hNh.out (by omega) hSE hSK hxl5 hklh.out (fun n hn => by have := hnN.out n hn; have := hNh.out; omega)
          · exfalso; simp only [List.length_cons, List.length_nil] at h; omega) (cc := 5 * (ns.length + 1)) (fun f hf => by
          simp only [List.mem_cons, List.not_mem_nil, or_false] at hf
          rcases hf with rfl | rfl | rfl | rfl
          · exact (Gr.copiesW N ns _).mono (by omega)
          · exact (Gr.sync N).mono (by omega)
          · exact (Gr.write N _ _).mono (by omega)
          · exact Gr.settleW N ns) hfh.out (by have := hklh.out; have := hMh.out; simp only [List.length_cons, List.length_nil]; omega) (by simp))
      clear hw5
      have hB5 := Lib.hid hB5
      have hLE := Lib.hid hLE
      have hLK := Lib.hid hLK
      have hL5 := Lib.hid hL5
      clear hx5 hxl5 hSE hSK
      rw [show bn + 1 = w4.heap.size from hw4s.out.symm]
      refine hall.out.mono ?_
      rintro e w6 ⟨rfl, hw⟩
      rw [show seqW [copiesW ns x.wt, syncW, wrW 0 (headP ns), settleW ns] x.d = lsyncW ns x.wt x.d from rfl] at hw ⊢
      obtain ⟨r, hr⟩ : ∃ r, Hid (lsyncW ns x.wt x.d = r) := ⟨_, Lib.hid rfl⟩
      rw [hr.out] at hw hst3 ⊢
      obtain ⟨er, dd⟩ := r
      dsimp only at hw hst3 ⊢
      obtain ⟨Sn, Fn, g1, g2, g3, g4, g5⟩ := hw.wide hL5.out.dk.fl
      have hL6 : LEnv w6 g gl mb bn bl (N - 65) mf x.wt (.slice kA q kc) ns := hLE.out.chg g2 hLK.out
      have hb6 : Blk w6 gl 74 #[.pointer (some ⟨g, 0, none⟩), .map (some mb), .int .i64 x.pn, .bool x.op] := hL5.out.blk.chg g2 hL5.out.ng
      have hmp6 : MBv Fn w6 mb (N - 65) mf x.wt := by
        have h1 : MBv F w5 mb (N - 65) mf x.wt := hmp4.out.below hB5a
        exact (h1.chg g2 hL5.out.nm hL5.out.dk.not8).wider fun k hk _ => g5 k hk
      have hng : ¬ Sn gl ∧ ¬ Sn mb := ⟨fun h => (g3 _ h).elim hL5.out.ng (by have := hlw.out.1; have := hB5.out.size; omega), fun h => (g3 _ h).elim hL5.out.nm (by have := hlw.out.2.1; have := hB5.out.size; omega)⟩
      have hCw : Chg S w w6 := (((Chg.of_below hB5.out : Chg (fun _ => False) w w5)).mono (fun _ _ h => h.elim)).then_ g2 (fun i _ hi => (hsh.out i).2 (.inl hi))
      have hSn : ∀ j, Sn j ∨ j = gl ∨ j = mb → S j ∨ w.heap.size ≤ j := fun j hj => by
        rcases hj with hj | hj
        · rcases g3 j hj with h | h
          · exact .inl ((hsh.out j).2 (.inl h))
          · exact .inr (Nat.le_trans hB5.out.size h)
        · exact .inl ((hsh.out j).2 (.inr hj))
      have hFn : ∀ j, Fn j → F j ∨ w.heap.size ≤ j := fun j hj => by
        rcases g4 j hj with h | h
        · exact .inl h
        · exact .inr (Nat.le_trans hB5.out.size h)
      have hdl : Hid (dd.l.length = N) := by
        have h1 := Gr.lsyncW N ns x.wt M _ hfh.out
        rw [hr.out] at h1
        exact h1.dl
      have cn6 : w6.cell? ⟨bn, 0, none⟩ = some (.slice kA q kc) := hL6.s.bn.cell 0
      by_cases he : er = 0
      · subst he
        have hod : Hid (((0 : Int), (⟨dd, fun _ => none, 0, x.op⟩ : Lk)) = o) := by
          have h := hst3
          rw [if_pos rfl] at h
          exact h
        have h0 : Hid (DInv w w6 S F gl g mb bl bn (.slice kA q kc) ns (N - 65) x dd 0) := by
          refine ⟨⟨mf, Sn, Fn, g1, ?_, hng.1, hng.2, hSn, hFn⟩, hb6, hCw, hL6.s.bl, hL6.s.bn, hL6.s.rd⟩
          have e : (fun j => if j ∈ ns.take 0 then none else x.wt j) = x.wt := by funext j; simp
          rw [e]
          exact hmp6
        clear hst3 hall hr hL6 hb6 hmp6 hng hCw hSn hFn g1 g2 g3 g4 g5 hw hLE hLK hL5 hB5 hB5a hL4 hmp4 hrd4 hb4n hb4l hB4 hbnq
        go_wp2
        clear cn6
        generalize decide (0 < q) = bq
        go_loopw [38] (fun iv wr => ∃ k : Nat, k ≤ q ∧ iv = .int .i64 (k : Int) ∧ Hid (DInv w wr S F gl g mb bl bn (.slice kA q kc) ns (N - 65) x dd k)) (fun iv _ => q - (RowKit.intOf iv).toNat)
        case atStart => exact ⟨0, Nat.zero_le _, rfl, h0⟩
        case round =>
          obtain ⟨k, hk, rfl, hI⟩ := hrel
          clear h0
          by_cases hkq : k < q
          · have hkl : k < ns.length := by rw [hq.out]; exact hkq
            have d0 : wr.cell? ⟨bl, 0, none⟩ = some (.pointer (some ⟨gl, 0, none⟩)) := hI.out.bl.cell 0
            have d1 : wr.cell? ⟨gl, 1, none⟩ = some (.map (some mb)) := hI.out.lg.cell 1
            have d5 : wr.cell? ⟨gl, 0, none⟩ = some (.pointer (some ⟨g, 0, none⟩)) := hI.out.lg.cell 0
            obtain ⟨ad, had, dn⟩ := hI.out.rd.natAt hkl
            subst had
            obtain ⟨mfk, him, hdel⟩ := hI.out.del hkl hmm.out hlw.out.2.2.2.2
            have hnm : ns[k]'hkl < N - 65 := hnN.out _ (List.getElem_mem hkl)
            replace hdel := Lib.hid hdel
            generalize ns[k]'hkl = nk at *
            have hnk : nk < 9223372036854775808 := by omega
            clear hI
            go_wp2_with (at_delete; refine wpList_im_delete rfl rfl Try.underlying3 Try.underlying72 him rfl rfl hnk ?_; intro w9 hi9 ht9)
            have hI9 := hdel.out w9 hi9 ht9
            replace hI9 := Lib.hid hI9
            clear hdel him hi9 ht9 d0 d1 dn
            go_wp2
            go_roundw
            case rel => exact ⟨k + 1, by omega, by go_num, hI9⟩
            case measure => simp [RowKit.intOf]; omega
          · obtain rfl : k = q := by omega
            have d0 : wr.cell? ⟨bl, 0, none⟩ = some (.pointer (some ⟨gl, 0, none⟩)) := hI.out.bl.cell 0
            have d2 : wr.cell? ⟨gl, 2, none⟩ = some (.int .i64 x.pn) := hI.out.lg.cell 2
            have d5 : wr.cell? ⟨gl, 0, none⟩ = some (.pointer (some ⟨g, 0, none⟩)) := hI.out.lg.cell 0
            have d3 : wr.frozen? ⟨gl, 2, none⟩ = false := hI.out.lg.frozen 2
            have hI2 : Hid (DInv w wr S F gl g mb bl bn (.slice kA k kc) ns (N - 65) x dd ns.length) := by
              have := hI.out
              rw [hq.out]
              exact this
            have hfin : Hid (o.1 = 0 ∧ LWrote w S F gl g o.2 (wr.setCell ⟨gl, 2, none⟩ (.int .i64 0))) := by
              have h := hI2.out.fin hns.out (by rw [hdl.out]) (fun k hk => hmpNh.out.off hk) hlw.out.2.2.2.1
              rw [← hod.out]
              exact ⟨rfl, h⟩
            clear hI hI2
            go_wp2
            go_ret
            exact ⟨by rw [hfin.out.1]; rfl, hfin.out.2⟩
      · have hfin : Hid (o.1 = er ∧ LWrote w S F gl g o.2 w6) := by
          have h := hst3
          rw [if_neg he] at h
          rw [← h]
          refine ⟨rfl, _, Fn, ⟨mb, mf, Sn, ⟨hb6, g1, ?_, hng.1, hng.2⟩, fun k => Iff.rfl⟩, hCw, hSn, hFn⟩
          show MBv Fn w6 mb (dd.l.length - 65) mf x.wt
          rw [hdl.out]
          exact hmp6
        clear hst3 hall hr hL6 hb6 hmp6 hng hCw hSn hFn g1 g2 g3 g4 g5 hw hLE hLK hL5 hB5 hB5a hL4 hmp4 hrd4 hb4n hb4l hB4 hbnq cn6
        go_wp2
        go_ret
        exact ⟨by rw [hfin.out.1]; rfl, hfin.out.2⟩
end Go.Proofs.Ytefbmbfhhhjgkaa
