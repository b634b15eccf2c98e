/- The cache: Get, Put, Pin, Stats. -/
import Derived.Test.YtfapehgjiglflaaKg
namespace Go.Proofs.Ytfapehgjiglflaa
open Go.RowKit
/-- A block's own number is set. -/
theorem KC.nset {w : World} {gc g mb N : Nat} {c : Ck} {d : Dk} {u v : List (Nat × Hd)} {x : Nat × Hd} {S : Nat → Prop} (h : KC w gc g mb N c d (u ++ x :: v) S) {i : Nat} (uu : Value) (hi : i < 4) {h' : Hd} (hn : Nod (w.setCell ⟨x.1, i, none⟩ uu) x.1 h') (he : h'.n = x.2.n) :
    KC (w.setCell ⟨x.1, i, none⟩ uu) gc g mb N ⟨c.size, (u ++ (x.1, h') :: v).map (·.2), c.hits, c.misses, c.evs⟩ d (u ++ (x.1, h') :: v) S := by
  have hc : Chg (footK gc mb (u ++ x :: v)) w (w.setCell ⟨x.1, i, none⟩ uu) := (Chg.refl _ w).at_ (.inr (.inr (mem_all.2 (.inr (.inl rfl))))) _
  have e : (u ++ (x.1, h') :: v).map (·.2.n) = (u ++ x :: v).map (·.2.n) := by simp [he]
  refine ⟨DKF.chg h.dk hc (fun j hS hF => h.notS hF hS) (fun j cs hb hF => h.notk hb (fun hk => (kindK_ne hk).2.2.1 rfl) hF) (fun j cs hb hF => h.notk hb (fun hk => (kindK_ne hk).2.2.2.1 rfl) hF), (h.km.nset uu hi hn).list _, ?_, h.mn, rfl, by rw [e]; exact h.num, fun z hz => ?_⟩
  · rw [mfN_upd u v x h' he]
    refine h.mp.chg (chg_set ⟨x.1, i, none⟩ uu) (fun em => ?_)
    exact (h.km.nod x (by simp)).nmb h.mp (show x.1 = mb from em.symm)
  · rcases List.mem_append.1 hz with hz | hz
    · exact h.lo z (List.mem_append.2 (.inl hz))
    · rcases List.mem_cons.1 hz with rfl | hz
      · show h'.n < N
        rw [he]
        exact h.lo x (by simp)
      · exact h.lo z (List.mem_append.2 (.inr (List.mem_cons_of_mem _ hz)))
theorem KTo.then_ {w w1 w' : World} {gc g mb N : Nat} {c c' : Ck} {d d' : Dk} {ns ns1 ns' : List (Nat × Hd)} {S : Nat → Prop} (h : KTo w gc g mb N ns S c d ns1 w1) (h2 : ∀ S1, KC w1 gc g mb N c d ns1 S1 → KC w' gc g mb N c' d' ns' S1) (hc : Chg (footK gc mb ns1) w1 w') (hf : ns'.map (·.1) = ns1.map (·.1)) : KTo w gc g mb N ns S c' d' ns' w' := by
  obtain ⟨S1, hk, hc1, hs1⟩ := h
  refine ⟨S1, h2 S1 hk, hc1.then_ hc (fun i hi hF => ?_), fun j hj => hs1 j (hj.imp id fun hj => ?_)⟩
  · rcases hs1 i (.inr hF) with e | e
    · exact e
    · omega
  · unfold footK at hj ⊢
    rw [hf] at hj
    exact hj
theorem KTo.kc {w w1 : World} {gc g mb N : Nat} {c : Ck} {d : Dk} {ns ns1 : List (Nat × Hd)} {S : Nat → Prop} (h : KTo w gc g mb N ns S c d ns1 w1) : ∃ S1, KC w1 gc g mb N c d ns1 S1 := by
  obtain ⟨S1, hk, _⟩ := h
  exact ⟨S1, hk⟩
theorem KTo.belowR {w w1 w' : World} {gc g mb N : Nat} {c : Ck} {d : Dk} {ns ns1 : List (Nat × Hd)} {S : Nat → Prop} (h : KTo w gc g mb N ns S c d ns1 w1) (hb : Below w1.heap.size w1 w') : KTo w gc g mb N ns S c d ns1 w' := by
  obtain ⟨S1, hk, hc1, hs1⟩ := h
  exact ⟨S1, hk.below hb, hc1.trans ((Chg.of_below hb).mono (fun j hj e => absurd hj (by have : w1.heap.size ≤ j := e; omega))), hs1⟩
def GetO (w : World) (gc g mb N : Nat) (ns : List (Nat × Hd)) (S : Nat → Prop) (o : Int × Ck × Dk) (e : Ending) (w' : World) : Prop :=
  ∃ ns', KTo w gc g mb N ns S o.2.1 o.2.2 ns' w' ∧ ((o.1 = 0 ∧ ∃ h r v, o.2.1.l = h :: r ∧ e = .returned (.tuple #[v, .int .i64 0]) ∧ Own8 w' v h.b) ∨ (o.1 ≠ 0 ∧ e = .returned (.tuple #[.slice none 0 0, .int .i64 o.1])))
set_option maxRecDepth 10000 in
set_option maxHeartbeats 4000000 in
theorem Get_calls (w : World) {gc g mb N : Nat} {c : Ck} {d : Dk} {ns : List (Nat × Hd)} {S : Nat → Prop} (h : KC w gc g mb N c d ns S) (hN : N ≤ 16384) (hdk : Dko N d) (h512 : ∀ x ∈ ns, x.2.b.length = 512) (n : Int)
    (hbl : ∀ x ∈ (getP c d N n).2.1.l, x.b.length ≤ 1000000000) :
    Calls Try.prog 12 #[.pointer (some ⟨gc, 0, none⟩), .int .i64 n] w (GetO w gc g mb N ns S (getP c d N n)) := by
  have hg := Lib.hid (get_calls w h hN hdk h512 n)
  have hblh := Lib.hid hbl
  clear h h512 hbl
  generalize getP c d N n = o at *
  go_enter Try.func12, Try.ntmps12
  go_wp2_with fail
  refine hg.out.mono ?_
  rintro e w1 ⟨ns', hto, hor⟩
  rcases hor with ⟨h0, k, hd, r, rfl, _, rfl⟩ | ⟨h0, rfl⟩
  · obtain ⟨S1, hk⟩ := hto.kc
    obtain ⟨vb, p, q, hB, hrd⟩ := hk.km.nod (k, hd) (by simp)
    have d1 : w1.cell? ⟨k, 1, none⟩ = some vb := hB.cell 1
    have hcl : Hid (o.2.1.l = hd :: r.map (·.2)) := by
      show _ = _
      rw [← hk.cl]
      rfl
    obtain ⟨bA, bc, rfl⟩ := hrd.shape
    have hrd := Lib.hid hrd
    have hto := Lib.hid hto
    have h0 := Lib.hid h0
    clear hB hk hg
    generalize (bvs hd.b).length = L at *
    go_wp2_with fail
    refine (Clone8_calls w1 (.slice bA L bc) hd.b hrd.out.1 (hblh.out hd (by rw [hcl.out]; simp))).mono ?_
    rintro e w2 ⟨r2, rfl, ho2, hB2, _⟩
    have hfin : Hid (GetO w gc g mb N ns S o (.returned (.tuple #[r2, .int .i64 0])) w2) := ⟨_, hto.out.belowR hB2, .inl ⟨h0.out, hd, _, r2, hcl.out, rfl, ho2⟩⟩
    clear ho2 hB2 hrd hto hcl
    go_wp2
    go_ret2
    exact hfin.out
  · have hfin : Hid (GetO w gc g mb N ns S o (.returned (.tuple #[.slice none 0 0, .int .i64 o.1])) w1) := ⟨ns', hto, .inr ⟨h0, rfl⟩⟩
    have hqb : ((o.1 : Int) != 0) = true := by simpa using h0
    clear hto hg
    go_wp2
    go_ret2
    exact hfin.out
def pinC (c : Ck) : Ck := match c.l with
  | [] => c
  | h :: r => ⟨c.size, ⟨h.n, h.b, h.dirty, winc h.pins⟩ :: r, c.hits, c.misses, c.evs⟩
def pinP (c : Ck) (d : Dk) (N : Nat) (n : Int) : Int × Ck × Dk := if (getP c d N n).1 = 0 then (0, pinC (getP c d N n).2.1, (getP c d N n).2.2) else getP c d N n
def ErrO (w : World) (gc g mb N : Nat) (ns : List (Nat × Hd)) (S : Nat → Prop) (o : Int × Ck × Dk) (e : Ending) (w' : World) : Prop :=
  e = .returned (.int .i64 o.1) ∧ ∃ ns', KTo w gc g mb N ns S o.2.1 o.2.2 ns' w'
set_option maxRecDepth 10000 in
set_option maxHeartbeats 4000000 in
theorem Pin_calls (w : World) {gc g mb N : Nat} {c : Ck} {d : Dk} {ns : List (Nat × Hd)} {S : Nat → Prop} (h : KC w gc g mb N c d ns S) (hN : N ≤ 16384) (hdk : Dko N d) (h512 : ∀ x ∈ ns, x.2.b.length = 512) (n : Int) :
    Calls Try.prog 15 #[.pointer (some ⟨gc, 0, none⟩), .int .i64 n] w (ErrO w gc g mb N ns S (pinP c d N n)) := by
  have hg := Lib.hid (get_calls w h hN hdk h512 n)
  clear h h512
  unfold pinP
  generalize getP c d N n = o at *
  obtain ⟨o2, ho2⟩ : ∃ o2, Hid ((if o.1 = 0 then (0, pinC o.2.1, o.2.2) else o) = o2) := ⟨_, rfl⟩
  rw [ho2.out]
  go_enter Try.func15, Try.ntmps15
  go_wp2_with fail
  refine hg.out.mono ?_
  rintro e w1 ⟨ns', hto, hor⟩
  rcases hor with ⟨h0, k, hd, r, rfl, _, rfl⟩ | ⟨h0, rfl⟩
  · obtain ⟨S1, hk⟩ := hto.kc
    obtain ⟨vb, p, q, hB, hrd⟩ := hk.km.nod (k, hd) (by simp)
    have d3 : w1.cell? ⟨k, 3, none⟩ = some (.int .i64 hd.pins) := hB.cell 3
    have f3 := hB.frozen 3
    have hP : pinC o.2.1 = ⟨o.2.1.size, ((k, (⟨hd.n, hd.b, hd.dirty, winc hd.pins⟩ : Hd)) :: r).map (·.2), o.2.1.hits, o.2.1.misses, o.2.1.evs⟩ := by
      unfold pinC
      rw [← hk.cl]
      rfl
    have hnod : Nod (w1.setCell ⟨k, 3, none⟩ (.int .i64 (winc hd.pins))) k ⟨hd.n, hd.b, hd.dirty, winc hd.pins⟩ := ⟨vb, p, q, hB.set_ 3 _, hrd.far (p := ⟨k, 3, none⟩) (fun cs hj => absurd rfl (hj.ne_ hB (by decide))) _⟩
    have hfin : Hid (ErrO w gc g mb N ns S (0, pinC o.2.1, o.2.2) (.returned (.int .i64 0)) (w1.setCell ⟨k, 3, none⟩ (.int .i64 (winc hd.pins)))) := by
      refine ⟨rfl, (k, ⟨hd.n, hd.b, hd.dirty, winc hd.pins⟩) :: r, ?_⟩
      show KTo w gc g mb N ns S (pinC o.2.1) o.2.2 _ _
      rw [hP]
      exact hto.then_ (fun S2 hk2 => KC.nset (u := []) (x := (k, hd)) (v := r) hk2 (.int .i64 (winc hd.pins)) (by omega) hnod rfl) ((Chg.refl _ w1).at_ (.inr (.inr (by simp))) _) rfl
    have hif : Hid (o2 = (0, pinC o.2.1, o.2.2)) := by show _ = _; rw [← ho2.out, if_pos h0]
    clear hB hk hg hto hrd hnod hP h0 ho2
    unfold winc at hfin
    go_wp2
    go_ret
    rw [hif.out]
    exact hfin.out
  · have hfin : Hid (ErrO w gc g mb N ns S o (.returned (.int .i64 o.1)) w1) := ⟨rfl, ns', hto⟩
    have hqb : ((o.1 : Int) == 0) = false := beq_eq_false_iff_ne.2 h0
    have hif : Hid (o2 = o) := by show _ = _; rw [← ho2.out, if_neg h0]
    clear hto hg h0 ho2
    go_wp2
    go_ret
    rw [hif.out]
    exact hfin.out
set_option maxRecDepth 10000 in
theorem Stats_calls (w : World) {gc g mb N : Nat} {c : Ck} {d : Dk} {ns : List (Nat × Hd)} {S : Nat → Prop} (h : KC w gc g mb N c d ns S) :
    Calls Try.prog 14 #[.pointer (some ⟨gc, 0, none⟩)] w fun e w' => e = .returned (.tuple #[.int .i64 c.hits, .int .i64 c.misses, .int .i64 c.evs]) ∧ w' = w.drew := by
  obtain ⟨p, q, hB⟩ := h.km.cb
  have c9 : w.drew.cell? ⟨gc, 9, none⟩ = some (.int .i64 c.hits) := hB.cell 9
  have c10 : w.drew.cell? ⟨gc, 10, none⟩ = some (.int .i64 c.misses) := hB.cell 10
  have c11 : w.drew.cell? ⟨gc, 11, none⟩ = some (.int .i64 c.evs) := hB.cell 11
  clear h hB
  go_enter Try.func14, Try.ntmps14
  go_wp2_with fail
  refine wp_mixs (fun W => W = w.drew) [] (by kernel_rfl) (by kernel_rfl) (by kernel_rfl) (by decide) rfl ?_
  iterate 15 ((refine mixsq rfl rfl 0 (by decide +kernel) ?_ (fun w' hw' => Or.inl ?_) (fun K hK => ?_)); rotate_left; (focus (have e9 : w' = w.drew := hw'; subst e9; go_simp; rfl)); go_simp; refine hK _ ?_; clear hK K)
  refine mixs_nil ?_
  go_wp2
  first | go_ret3 | go_ret
  exact ⟨rfl, rfl⟩
def putC (c : Ck) (b : List UInt8) : Ck := match c.l with
  | [] => c
  | h :: r => ⟨c.size, ⟨h.n, b, true, h.pins⟩ :: r, c.hits, c.misses, c.evs⟩
def slotP (c : Ck) (d : Dk) (N : Nat) (n : Int) : Int × Ck × Dk :=
  match c.l.find? (fun h => h.n == n.toNat) with
  | some h => (0, hitC c (h :: delL c.l n.toNat), d)
  | none =>
    if (c.l.length : Int) < c.size then holdP c d ⟨n.toNat, [], false, 0⟩ none
    else match vicL c.l with
      | none => (13, c, d)
      | some x => holdP c d ⟨n.toNat, [], false, 0⟩ (some x)
def putP (c : Ck) (d : Dk) (N : Nat) (n : Int) (b : List UInt8) : Int × Ck × Dk :=
  if (n < 0 ∨ (N : Int) ≤ n) ∨ b.length ≠ 512 then (1, c, d)
  else if (slotP c d N n).1 = 0 then (0, putC (slotP c d N n).2.1 b, (slotP c d N n).2.2) else slotP c d N n
theorem put_end {w w3 w4 : World} {gc g mb N k : Nat} {o : Int × Ck × Dk} {hd : Hd} {ns r : List (Nat × Hd)} {S : Nat → Prop} (hto : KTo w gc g mb N ns S o.2.1 o.2.2 ((k, hd) :: r) w3) (hB : Below w3.heap.size w3 w4) {v : Value} {b : List UInt8} (ho : Own8 w4 v b) :
    (∃ ns', KTo w gc g mb N ns S (putC o.2.1 b) o.2.2 ns' ((w4.setCell ⟨k, 1, none⟩ v).setCell ⟨k, 2, none⟩ (.bool true))) ∧ ∃ (vb : Value) (p q : Option Addr), Blk w4 k 78 #[.int .i64 (hd.n : Int), vb, .bool hd.dirty, .int .i64 hd.pins, .pointer p, .pointer q] ∧ RdT (fun _ => True) 5 w4 vb (bvs hd.b) := by
  have h4 := hto.belowR hB
  obtain ⟨S1, hk⟩ := h4.kc
  obtain ⟨vb, p, q, hB4, hrd⟩ := hk.km.nod (k, hd) (by simp)
  refine ⟨?_, vb, p, q, hB4, hrd⟩
  have hP : putC o.2.1 b = ⟨o.2.1.size, ((k, (⟨hd.n, b, true, hd.pins⟩ : Hd)) :: r).map (·.2), o.2.1.hits, o.2.1.misses, o.2.1.evs⟩ := by
    unfold putC
    rw [← hk.cl]
    rfl
  have hr1 : RdT (fun _ => True) 5 (w4.setCell ⟨k, 1, none⟩ v) v (bvs b) := (RdT.of_own (F := fun _ => True) (t := 5) (base := 0) ho (fun _ _ => trivial)).far (p := ⟨k, 1, none⟩) (fun cs hj => absurd rfl (hj.ne_ hB4 (by decide))) _
  have n1 : Nod (w4.setCell ⟨k, 1, none⟩ v) k ⟨hd.n, b, hd.dirty, hd.pins⟩ := ⟨v, p, q, hB4.set_ 1 _, hr1⟩
  have b1 : Blk (w4.setCell ⟨k, 1, none⟩ v) k 78 #[.int .i64 (hd.n : Int), v, .bool hd.dirty, .int .i64 hd.pins, .pointer p, .pointer q] := hB4.set_ 1 _
  have n2 : Nod ((w4.setCell ⟨k, 1, none⟩ v).setCell ⟨k, 2, none⟩ (.bool true)) k ⟨hd.n, b, true, hd.pins⟩ := ⟨v, p, q, b1.set_ 2 _, hr1.far (p := ⟨k, 2, none⟩) (fun cs hj => absurd rfl (hj.ne_ b1 (by decide))) _⟩
  refine ⟨(k, ⟨hd.n, b, true, hd.pins⟩) :: r, ?_⟩
  rw [hP]
  have t1 := h4.then_ (fun S2 hk2 => KC.nset (u := []) (x := (k, hd)) (v := r) hk2 v (by omega) n1 rfl) ((Chg.refl _ w4).at_ (.inr (.inr (by simp))) _) rfl
  exact t1.then_ (fun S2 hk2 => KC.nset (u := []) (x := (k, (⟨hd.n, b, hd.dirty, hd.pins⟩ : Hd))) (v := r) hk2 (.bool true) (by omega) n2 rfl) ((Chg.refl _ _).at_ (.inr (.inr (by simp))) _) rfl
end Go.Proofs.Ytfapehgjiglflaa
