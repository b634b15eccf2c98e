/- The cache: victim, hold. -/
import Derived.Test.YtfapehgjiglflaaKh
import Derived.Lib.Builder
namespace Go.Proofs.Ytfapehgjiglflaa
open Go.RowKit
def vicP (l : List (Nat × Hd)) : Option (Nat × Hd) := l.reverse.find? fun x => x.2.pins == 0
theorem vicP_snoc (a : List (Nat × Hd)) (z : Nat × Hd) : vicP (a ++ [z]) = if z.2.pins = 0 then some z else vicP a := by
  unfold vicP
  rw [List.reverse_append, List.reverse_singleton, List.singleton_append, List.find?_cons]
  by_cases h : z.2.pins = 0
  · rw [if_pos h]; simp [h]
  · rw [if_neg h]
    have : (z.2.pins == 0) = false := beq_eq_false_iff_ne.2 h
    rw [this]
theorem vicP_split {l : List (Nat × Hd)} {x : Nat × Hd} (h : vicP l = some x) : ∃ u v, l = u ++ x :: v ∧ x.2.pins = 0 ∧ ∀ z ∈ v, z.2.pins ≠ 0 := by
  unfold vicP at h
  obtain ⟨h1, la, lb, e, h2⟩ := List.find?_eq_some_iff_append.1 h
  refine ⟨lb.reverse, la.reverse, ?_, by simpa using h1, fun z hz => ?_⟩
  · have := congrArg List.reverse e
    rw [List.reverse_reverse] at this
    rw [this]
    simp
  · have := h2 z (List.mem_reverse.1 hz)
    simpa using this
def vicV : Option (Nat × Hd) → Value
  | some x => .tuple #[.pointer (some ⟨x.1, 0, none⟩), .int .i64 0]
  | none => .tuple #[.pointer none, .int .i64 13]
theorem run_neq_ptr_other {P : Program} (w : World) {tp te : TypeId} {j : TypeInfo} {a b : Addr} {ca cb : Array Value} {ta tb : TypeId} (hp : P.underlying tp = some (.pointer te)) (hte : P.info? te = some j) (hsz : j.size ≠ 0)
    (hne : a ≠ b) (ha : w.heap[a.block]? = some (.cells ca ta (0, 0))) (hb : w.heap[b.block]? = some (.cells cb tb (0, 0))) :
    (binOp .neq tp (.pointer (some a)) (.pointer (some b))).run P w = .ok (.bool true) w := by
  have h : ∀ d : Nat, (Op.equalIn (d + 1) tp (.pointer (some a)) (.pointer (some b))).run P w = .ok false w := fun d => by
    simp [Op.equalIn, run_underlying hp, sizeOf, typeInfo, hte, hsz, run_sameAddr_other w hne ha hb]
  simp only [binOp]
  simp [Op.equal, Op.maxDepth, h 9999]
theorem Try.info_hd : ∃ j, Try.prog.info? 78 = some j ∧ j.size ≠ 0 := by
  have h : (Try.prog.info? 78).map (fun i => decide (i.size ≠ 0)) = some true := by kernel_rfl
  cases hj : Try.prog.info? 78 with
  | none => rw [hj] at h; cases h
  | some j =>
    rw [hj] at h
    exact ⟨j, rfl, by simpa using h⟩
/-- How far a block stands in the ring. -/
def posK (gc : Nat) (ks : List Nat) (v : Value) : Nat := match v with
  | .pointer (some a) => if a.block = gc then 0 else ks.idxOf a.block + 1
  | _ => 0
theorem posK_gc (gc : Nat) (ks : List Nat) : posK gc ks (.pointer (some (ad gc gc))) = 0 := by
  unfold posK ad
  simp
theorem posK_at {gc : Nat} {a b : List (Nat × Hd)} {z : Nat × Hd} (hd : ((a ++ z :: b).map (·.1)).Nodup) (hg : z.1 ≠ gc) : posK gc ((a ++ z :: b).map (·.1)) (.pointer (some (ad gc z.1))) = a.length + 1 := by
  unfold posK ad
  simp only [hg, if_false]
  rw [List.map_append, List.map_cons] at hd ⊢
  have h7 := List.nodup_append.1 hd
  rw [List.idxOf_append, if_neg (fun hm => h7.2.2 _ hm _ (by simp) rfl), List.idxOf_cons_self, List.length_map]
  omega
set_option maxRecDepth 10000 in
set_option maxHeartbeats 2000000 in
theorem vicRoom_calls (w : World) {gc g mb N : Nat} {c : Ck} {d : Dk} {ns : List (Nat × Hd)} {S : Nat → Prop} (h : KC w gc g mb N c d ns S) (hs : (ns.length : Int) < c.size) :
    Calls Try.prog 38 #[.pointer (some ⟨gc, 0, none⟩)] w fun e w' => e = .returned (.tuple #[.pointer none, .int .i64 0]) ∧ w' = w.drew := by
  have hlen := (h.below (drew_below w)).mp.run_len (mt := 75) (et := 76) Try.underlying75 3
  rw [mfN_len h.num h.lo] at hlen
  obtain ⟨p, q, hG⟩ := h.km.cb
  have c2 : w.drew.cell? ⟨gc, 2, none⟩ = some (.map (some mb)) := hG.cell 2
  have c1 : w.drew.cell? ⟨gc, 1, none⟩ = some (.int .i64 c.size) := hG.cell 1
  clear h hG
  generalize ns.length = L at *
  go_enter Try.func38, Try.ntmps38
  go_wp2_with fail
  refine wp_mixs (fun W => W = w.drew) [] (by kernel_rfl) (by kernel_rfl) (by kernel_rfl) (by decide) rfl ?_
  iterate 10 ((refine mixsq rfl rfl 0 (by decide +kernel) ?_ (fun w' hw' => Or.inl ?_) (fun K hK => ?_)); rotate_left; (focus (have e9 : w' = w.drew := hw'; subst e9; go_simp; rfl)); go_simp; refine hK _ ?_; clear hK K)
  refine mixs_nil ?_
  go_wp2
  go_ret2
  exact ⟨rfl, rfl⟩
set_option maxRecDepth 10000 in
set_option maxHeartbeats 4000000 in
theorem victim_calls (w : World) {gc g mb N : Nat} {c : Ck} {d : Dk} {ns : List (Nat × Hd)} {S : Nat → Prop} (h : KC w gc g mb N c d ns S) (hs : ¬ (ns.length : Int) < c.size) :
    Calls Try.prog 38 #[.pointer (some ⟨gc, 0, none⟩)] w fun e w' => e = .returned (vicV (vicP ns)) ∧ w' = w.drew := by
  have hlen := (h.below (drew_below w)).mp.run_len (mt := 75) (et := 76) Try.underlying75 3
  rw [mfN_len h.num h.lo] at hlen
  have hk := Lib.hid (h.km.below (drew_below w))
  obtain ⟨p, q, hG⟩ := h.km.cb
  have c2 : w.drew.cell? ⟨gc, 2, none⟩ = some (.map (some mb)) := hG.cell 2
  have c1 : w.drew.cell? ⟨gc, 1, none⟩ = some (.int .i64 c.size) := hG.cell 1
  obtain ⟨A0, p0, hA0⟩ := snoc_of gc (ns.map (·.1))
  have h7 : w.drew.cell? ⟨gc, 7, none⟩ = some (.pointer (some (ad gc p0))) := by
    have hl := h.km.lnk
    have e : gc :: (ns.map (·.1) ++ [gc]) = A0 ++ p0 :: [gc] := by rw [← List.cons_append, hA0]; simp
    rw [e] at hl
    have := (Lnk.app.1 hl).2.2.1
    unfold pv at this
    rw [ofs_self] at this
    exact this
  obtain ⟨jh, hj, hjs⟩ := Try.info_hd
  have hGd : Hid (Blk w.drew gc _ _) := hG
  have hnq0 := Lib.run_neq_ptr_same (P := Try.prog) w.drew (tp := 76) (⟨gc, 3, none⟩ : Addr) Try.underlying76 hj
  have hlt : Hid (¬ (ns.length : Int) < c.size) := hs
  obtain ⟨L, hL⟩ : ∃ L, Hid (L = ns.length) := ⟨_, rfl⟩
  rw [← hL.out] at hlen hlt hs
  have hdup := Lib.hid h.km.dup
  have hA0h := Lib.hid hA0
  clear h hG hA0
  go_enter Try.func38, Try.ntmps38
  go_wp2_with fail
  refine wp_mixs (fun W => W = w.drew) [] (by kernel_rfl) (by kernel_rfl) (by kernel_rfl) (by decide) rfl ?_
  iterate 10 ((refine mixsq rfl rfl 0 (by decide +kernel) ?_ (fun w' hw' => Or.inl ?_) (fun K hK => ?_)); rotate_left; (focus (have e9 : w' = w.drew := hw'; subst e9; go_simp; rfl)); go_simp; refine hK _ ?_; clear hK K)
  refine mixs_nil ?_
  generalize hwd : w.drew = wd at *
  unfold ad at h7
  clear hlen c1 c2
  go_wp2
  go_loop [4] (fun hv => ∃ (a b : List (Nat × Hd)) (A : List Nat) (p : Nat), ns = a ++ b ∧ Hid (gc :: a.map (·.1) = A ++ [p]) ∧ hv = .pointer (some ⟨p, ofs gc p, none⟩) ∧ Hid (vicP ns = vicP a)) (fun hv => posK gc (ns.map (·.1)) hv)
  case atStart => exact ⟨ns, [], A0, p0, by simp, hA0h.out, rfl, rfl⟩
  case round =>
    obtain ⟨a, b, A, p, hab, hAp, rfl, hv⟩ := hrel
    clear h7
    rcases List.eq_nil_or_concat a with rfl | ⟨a', z, rfl⟩
    · have hpg : p = gc := by
        have h1 := hAp.out
        cases A with
        | nil => simpa using h1.symm
        | cons x A => simp at h1
      subst hpg
      have hv : Hid (vicP ns = none) := hv
      rw [ofs_self]
      clear hAp hA0h hdup hk hab hGd
      go_wp2
      go_ret2
      rw [hv.out]
      exact ⟨rfl, rfl⟩
    · rw [List.concat_eq_append] at hab hAp hv
      have hab2 : ns = a' ++ z :: b := by rw [hab]; simp
      clear hab
      have hpz : p = z.1 := by
        have h1 := hAp.out
        rw [List.map_append, ← List.cons_append] at h1
        have := List.append_inj_right' h1 (by simp)
        simpa using this.symm
      subst hpz
      have hzg : z.1 ≠ gc := (hk.out.nod z (by rw [hab2]; simp)).ne hk.out.cb
      have hzg' : gc ≠ z.1 := fun e => hzg e.symm
      obtain ⟨p', y', A', B', hr⟩ := ring_of gc a' b z.1
      have hr : Ring gc a' b z.1 p' y' A' B' := ⟨hr.hu, hr.hv⟩
      have hl := hk.out.lnk
      rw [hab2, hr.all] at hl
      obtain ⟨_, q2, _, _⟩ := hl.three
      have q2 : wd.cell? ⟨z.1, 4, none⟩ = some (.pointer (some ⟨p', ofs gc p', none⟩)) := by
        unfold pv ad at q2
        rw [ofs_ne hzg] at q2
        exact q2
      obtain ⟨vb, l1, l2, hB, _⟩ := hk.out.nod z (by rw [hab2]; simp)
      have hnq := run_neq_ptr_other (P := Try.prog) wd (tp := 76) (a := ⟨z.1, 0, none⟩) (b := ⟨gc, 3, none⟩) Try.underlying76 hj hjs (by intro e; injection e with e _; exact hzg e) hB hGd.out
      clear hnq0
      have q3 : wd.cell? ⟨z.1, 3, none⟩ = some (.int .i64 z.2.pins) := hB.cell 3
      have hvs := vicP_snoc a' z
      rw [ofs_ne hzg]
      have hmes : Hid (posK gc (ns.map (·.1)) (.pointer (some ⟨p', ofs gc p', none⟩)) < posK gc (ns.map (·.1)) (.pointer (some ⟨z.1, 0, none⟩))) := by
        have m1 := posK_at (gc := gc) (a := a') (b := b) (z := z) (by rw [← hab2]; exact hdup.out) hzg
        unfold ad at m1
        rw [ofs_ne hzg] at m1
        show _ < _
        rw [hab2, m1]
        rcases List.eq_nil_or_concat a' with e | ⟨a2, z2, e⟩
        · subst e
          have : p' = gc := by
            have h1 := hr.hu
            cases A' with
            | nil => simpa using h1.symm
            | cons x A => simp at h1
          subst this
          have := posK_gc p' ((([] : List (Nat × Hd)) ++ z :: b).map (·.1))
          unfold ad at this
          rw [this]
          omega
        · rw [List.concat_eq_append] at e
          have hp2 : p' = z2.1 := by
            have h1 := hr.hu
            rw [e, List.map_append, ← List.cons_append] at h1
            have := List.append_inj_right' h1 (by simp)
            simpa using this.symm
          have e3 : ns = a2 ++ z2 :: (z :: b) := by rw [hab2, e]; simp
          have hz2g : z2.1 ≠ gc := (hk.out.nod z2 (by rw [e3]; simp)).ne hk.out.cb
          have m2 := posK_at (gc := gc) (a := a2) (b := z :: b) (z := z2) (by rw [← e3]; exact hdup.out) hz2g
          unfold ad at m2
          rw [hp2, ← hab2, e3, m2, e]
          simp
      have hv0 := hv.out
      rw [hvs] at hv0
      by_cases hp0 : z.2.pins = 0
      · rw [if_pos hp0] at hv0
        rw [hp0] at q3
        have hv1 := Lib.hid hv0
        clear hv0
        clear hmes hr hl q2 hvs hv hAp hA0h hk hdup hab2 hB
        go_wp2
        go_ret2
        rw [hv1.out]
        exact ⟨rfl, rfl⟩
      · rw [if_neg hp0] at hv0
        have hv1 := Lib.hid hv0
        clear hv0
        have hpb : (z.2.pins == 0) = false := beq_eq_false_iff_ne.2 hp0
        have hr' := Lib.hid hr
        have hab' := Lib.hid hab2
        clear hr hl hvs hv hAp hA0h hB hab2
        go_wp2
        go_round
        case rel => exact ⟨a', z :: b, A', p', hab'.out, hr'.out.hu, rfl, hv1⟩
        case measure => exact hmes.out
end Go.Proofs.Ytfapehgjiglflaa
