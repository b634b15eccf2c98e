/- The cache: which blocks are held, which are dirty. -/
import Derived.Test.YtfapehgjiglflaaKu
namespace Go.Proofs.Ytfapehgjiglflaa
open Go.RowKit Go.Sort
theorem SortI_calls (w0 w : World) (v : Value) (l : List Int) (h : w.ownsRow w0.heap.size 3 1 v l.length (ivs l)) (hl : l.length < 4611686018427387904) (hB : Below w0.heap.size w0 w) :
    Calls Try.prog 61 #[v] w fun e w' => e = .returned (.tuple #[]) ∧ Below w0.heap.size w0 w' ∧ Rd w' v (ivs (l.mergeSort fun x y => decide (x ≤ y))) := by
  rcases h.2 with ⟨rfl, h0⟩ | ⟨g, c, cur, rfl, hg0, hgb, hnc, _⟩
  · have hl0 : l = [] := List.eq_nil_of_length_eq_zero h0
    subst hl0
    refine (show Calls Try.prog 61 #[.slice none 0 0] w _ from AnyM.slices_Sort_int_none sortA none 0 w).mono ?_
    rintro e w' ⟨rfl, rfl⟩
    exact ⟨rfl, hB, by rw [List.mergeSort_nil]; exact Rd.nil _ _ _⟩
  · have hc := World.ownsRow.cells h rfl
    have hlt : g < w.heap.size := Blk.lt hgb
    have hH : Holds (Value.int .i64) w g 0 l.toArray := by
      intro j hj
      have hj' : j < l.length := by simpa using hj
      refine ⟨?_, World.ownsRow.frozenAt h _⟩
      have := hc j (.int .i64 l[j]) (by simp [ivs, List.getElem?_eq_getElem hj'])
      rw [addr_add_at] at this
      rw [this, getElem!_pos _ j (by simpa using hj)]
      simp
    refine (show Calls Try.prog 61 #[.slice (some ⟨g, 0, none⟩) l.length c] w _ from AnyM.slices_Sort_int sortA g 0 c l w hH hlt hl).mono ?_
    rintro e w' ⟨rfl, n, os, rfl⟩
    obtain ⟨sl, hsl⟩ : ∃ sl, sl = l.mergeSort (fun x y => decide (x ≤ y)) := ⟨_, rfl⟩
    rw [← hsl]
    have hsn : sl.length = l.length := by rw [hsl]; exact List.length_mergeSort l
    have hs : sl.toArray.size = l.toArray.size := by simp [hsn]
    have hH2 := holds_putRow (Value.int .i64) (Sort.ahead w n) g 0 l.toArray sl.toArray (holds_ahead _ _ _ _ _ _ hH) hs
    have hsz : (putRow (Value.int .i64) (Sort.ahead w n) g 0 sl.toArray).heap.size = w.heap.size := by simp [putRow, mapBlock, Sort.ahead]
    refine ⟨rfl, ⟨hB.os, hB.tape, hB.output, ?_, ?_⟩, ⟨some ⟨g, 0, none⟩, c, by simp [ivs, hsn], by simp only [ivs, List.length_map, hsn]; exact hnc, fun _ => ⟨_, rfl, fun j u hu => ?_⟩⟩⟩
    · show _ ≤ (grow _ _).heap.size
      rw [size_grow]
      have := hB.size
      omega
    · intro k hk
      have hk2 : k < w.heap.size := Nat.lt_of_lt_of_le hk hB.size
      rw [← hB.block k hk]
      refine (heap_grow_old _ os (show k < (putRow (Value.int .i64) (Sort.ahead w n) g 0 sl.toArray).heap.size by omega)).trans ?_
      show (w.heap.modify g _)[k]? = _
      rw [Array.getElem?_modify, if_neg (by omega)]
    · have hj : j < sl.length := by
        have := (List.getElem?_eq_some_iff.1 hu).1
        simpa [ivs] using this
      rw [addr_add_at]
      refine (cell?_grow _ os _ (show g < (putRow (Value.int .i64) (Sort.ahead w n) g 0 sl.toArray).heap.size by omega)).trans ?_
      refine (hH2 j (by simpa using hj)).1.trans ?_
      rw [← hu, getElem!_pos _ j (by simpa using hj)]
      simp [ivs, List.getElem?_eq_getElem hj]
/-- The numbers of the blocks that answer yes. -/
def whichL (l : List Hd) (p : Hd → Bool) (N : Nat) : List Nat := (List.range N).filter fun k => l.any fun h => h.n == k && p h
def nvs (l : List Nat) : List Value := l.map fun (k : Nat) => Value.int .i64 (k : Int)
theorem nvs_ivs (l : List Nat) : nvs l = ivs (l.map Int.ofNat) := by
  unfold nvs ivs
  rw [List.map_map]
  rfl
theorem which_sorted {l : List Hd} {p : Hd → Bool} {N : Nat} {xs : List Nat} (hn : xs.Nodup) (hx : ∀ k, k ∈ xs ↔ k ∈ whichL l p N) : (xs.map Int.ofNat).mergeSort (fun x y => decide (x ≤ y)) = (whichL l p N).map Int.ofNat := by
  have hp : xs.Perm (whichL l p N) := by
    have hw : (whichL l p N).Nodup := List.Pairwise.filter _ List.nodup_range
    rw [List.perm_ext_iff_of_nodup hn hw]
    exact hx
  rw [mergeSort_of_perm_i (hp.map Int.ofNat)]
  refine List.mergeSort_of_pairwise ?_
  refine List.Pairwise.map _ (R := (· < ·)) (fun a b hab => by simp; omega) ?_
  exact List.Pairwise.filter _ List.pairwise_lt_range
theorem mem_which {l : List Hd} {p : Hd → Bool} {N k : Nat} : k ∈ whichL l p N ↔ k < N ∧ ∃ h ∈ l, h.n = k ∧ p h = true := by
  unfold whichL
  rw [List.mem_filter, List.mem_range, List.any_eq_true]
  simp only [Bool.and_eq_true, beq_iff_eq]
theorem mfN_inv {ns : List (Nat × Hd)} {j : Nat} {v : Value} (h : mfN ns j = some v) : ∃ x ∈ ns, x.2.n = j ∧ v = .pointer (some ⟨x.1, 0, none⟩) := by
  unfold mfN at h
  cases hf : ns.find? (fun x => x.2.n == j) with
  | none => rw [hf] at h; cases h
  | some x =>
    rw [hf] at h
    injection h with h
    have h1 := List.find?_some hf
    exact ⟨x, List.mem_of_find?_eq_some hf, by simpa using h1, h.symm⟩
/-- Of numbers that are not the same two blocks are the same. -/
theorem num_uniq {ns : List (Nat × Hd)} (hn : (ns.map (·.2.n)).Nodup) {x y : Nat × Hd} (hx : x ∈ ns) (hy : y ∈ ns) (e : x.2.n = y.2.n) : x = y := by
  induction ns with
  | nil => cases hx
  | cons z r ih =>
    rw [List.map_cons, List.nodup_cons] at hn
    rcases List.mem_cons.1 hx with rfl | hx <;> rcases List.mem_cons.1 hy with rfl | hy
    · rfl
    · exact absurd (List.mem_map.2 ⟨y, hy, e.symm⟩) hn.1
    · exact absurd (show y.2.n ∈ r.map (·.2.n) from List.mem_map.2 ⟨x, (by first | exact hx | assumption), e⟩) hn.1
    · exact ih hn.2 hx hy
structure WI (N : Nat) (l : List Hd) (p : Hd → Bool) (lf : Nat → Bool) (xs : List Nat) : Prop where
  nd : xs.Nodup
  le : ∀ k ∈ xs, k < N
  mem : ∀ k, k ∈ xs ↔ lf k = false ∧ ∃ h ∈ l, h.n = k ∧ p h = true
theorem WI.start {ns : List (Nat × Hd)} {N : Nat} {p : Hd → Bool} : WI N (ns.map (·.2)) p (fun k => (mfN ns k).isSome) [] := by
  refine ⟨List.nodup_nil, (fun k hk => absurd hk (by simp)), fun k => ⟨(fun hk => absurd hk (by simp)), fun hk => ?_⟩⟩
  obtain ⟨h1, h, h2, h3, _⟩ := hk
  obtain ⟨x, hx, rfl⟩ := List.mem_map.1 h2
  rw [mfN_on (List.mem_map.2 ⟨x, hx, h3⟩)] at h1
  cases h1
theorem nodup_le : ∀ {N : Nat} {xs : List Nat}, xs.Nodup → (∀ k ∈ xs, k < N) → xs.length ≤ N := fun {N xs} hn hl => by
  have h1 : xs.Perm ((List.range N).filter fun k => decide (k ∈ xs)) := by
    rw [List.perm_ext_iff_of_nodup hn (List.Pairwise.filter _ List.nodup_range)]
    intro a
    rw [List.mem_filter, List.mem_range, decide_eq_true_eq]
    exact ⟨fun h => ⟨hl a h, h⟩, fun h => h.2⟩
  rw [h1.length_eq]
  exact Nat.le_trans (List.length_filter_le _ _) (by simp)
theorem WI.yes {ns : List (Nat × Hd)} {N : Nat} {p : Hd → Bool} {lf : Nat → Bool} {xs : List Nat} (h : WI N (ns.map (·.2)) p lf xs) {x : Nat × Hd} (hx : x ∈ ns) (hl : lf x.2.n = true) (hp : p x.2 = true) (hN : x.2.n < N) : WI N (ns.map (·.2)) p (fun j => lf j && !(j == x.2.n)) (xs ++ [x.2.n]) := by
  have hni : x.2.n ∉ xs := fun hm => by have := ((h.mem _).1 hm).1; rw [hl] at this; cases this
  refine ⟨List.nodup_append.2 ⟨h.nd, by simp, fun a ha b hb e => hni (by simp at hb; rw [← hb, ← e]; exact ha)⟩, fun k hk => ?_, fun k => ?_⟩
  · rcases List.mem_append.1 hk with hk | hk
    · exact h.le k hk
    · rw [List.mem_singleton.1 hk]; exact hN
  · rw [List.mem_append, List.mem_singleton, h.mem]
    constructor
    · rintro (⟨h1, h2⟩ | rfl)
      · exact ⟨by simp [h1], h2⟩
      · exact ⟨by simp, x.2, List.mem_map.2 ⟨x, hx, rfl⟩, rfl, hp⟩
    · rintro ⟨h1, h2⟩
      by_cases e : k = x.2.n
      · exact .inr e
      · left
        have : (k == x.2.n) = false := beq_eq_false_iff_ne.2 e
        rw [this] at h1
        exact ⟨by simpa using h1, h2⟩
theorem WI.no {ns : List (Nat × Hd)} {N : Nat} {p : Hd → Bool} {lf : Nat → Bool} {xs : List Nat} (h : WI N (ns.map (·.2)) p lf xs) (hn : (ns.map (·.2.n)).Nodup) {x : Nat × Hd} (hx : x ∈ ns) (hl : lf x.2.n = true) (hp : p x.2 = false) : WI N (ns.map (·.2)) p (fun j => lf j && !(j == x.2.n)) xs := by
  refine ⟨h.nd, h.le, fun k => ?_⟩
  rw [h.mem]
  constructor
  · rintro ⟨h1, h2⟩
    exact ⟨by simp [h1], h2⟩
  · rintro ⟨h1, h2⟩
    refine ⟨?_, h2⟩
    by_cases e : k = x.2.n
    · exfalso
      obtain ⟨hh, hm, he, hq⟩ := h2
      obtain ⟨y, hy, rfl⟩ := List.mem_map.1 hm
      have := num_uniq hn hy hx (he.trans e)
      subst this
      rw [hp] at hq
      cases hq
    · have : (k == x.2.n) = false := beq_eq_false_iff_ne.2 e
      rw [this] at h1
      simpa using h1
theorem own_chgB {w w' : World} {t : TypeId} {s n base : Nat} {v : Value} {xs : List Value} {S : Nat → Prop} (h : w.ownsRow base t s v n xs) (hc : Chg S w w') (hs : ∀ j, v.ownBlock = some j → ¬ S j) : w'.ownsRow base t s v n xs :=
  ⟨h.1, by
    rcases h.2 with h | ⟨g, cap, cur, rfl, hb, hg, rest⟩
    · exact .inl h
    · exact .inr ⟨g, cap, cur, rfl, hb, (hc.block g (Blk.lt hg) (hs g rfl)).trans hg, rest⟩⟩
theorem own_geB {w : World} {t : TypeId} {size base n : Nat} {v : Value} {xs : List Value} (h : w.ownsRow base t size v n xs) : ∀ j, v.ownBlock = some j → base ≤ j := fun j hj => by
  rcases h.2 with ⟨rfl, _⟩ | ⟨g, cap, cur, rfl, hb, _⟩
  · simp [Value.ownBlock] at hj
  · have e : g = j := by simpa [Value.ownBlock] using hj
    omega
theorem own_kindB {w : World} {base e size n : Nat} {v : Value} {xs : List Value} (h : w.ownsRow base e size v n xs) {k : Nat} (hk : v.ownBlock = some k) : ∃ cs, Blk w k e cs := by
  rcases h.2 with ⟨rfl, _⟩ | ⟨g', cap, cur, rfl, _, hg, _⟩
  · simp [Value.ownBlock] at hk
  · have x : g' = k := by simpa [Value.ownBlock] using hk
    subst x
    exact ⟨cur, hg⟩
def WhOut (w : World) (l : List Nat) (e : Ending) (w' : World) : Prop := ∃ v, e = .returned v ∧ Rd w' v (nvs l) ∧ Below w.heap.size w w'
def WhNew (w : World) (l : List Nat) (e : Ending) (w' : World) : Prop := ∃ v, e = .returned v ∧ Rd w' v (nvs l) ∧ Below w.heap.size w w' ∧ ∀ j, v.ownBlock = some j → w.heap.size ≤ j
theorem Try.info_intK : (Try.prog.info? 3).map (fun i => (i.zero, i.size, i.bytes)) = some (some (.int .i64 0), 1, 8) := by kernel_rfl
set_option maxRecDepth 10000 in
theorem heldF_calls (W : World) (k : Nat) (hd : Hd) (hn : Nod W k hd) : Calls Try.prog 35 #[.pointer (some ⟨k, 0, none⟩)] W (Ans W (.bool true)) := by
  clear hn
  go_enter Try.func35, Try.ntmps35
  go_wp2
  go_ret
  exact ⟨rfl, rfl⟩
set_option maxRecDepth 10000 in
theorem dirtyF_calls (W : World) (k : Nat) (hd : Hd) (hn : Nod W k hd) : Calls Try.prog 42 #[.pointer (some ⟨k, 0, none⟩)] W (Ans W (.bool hd.dirty)) := by
  obtain ⟨vb, p, q, hB, _⟩ := hn
  have c2 : W.cell? ⟨k, 2, none⟩ = some (.bool hd.dirty) := hB.cell 2
  clear hB
  go_enter Try.func42, Try.ntmps42
  go_wp2
  go_ret
  exact ⟨rfl, rfl⟩
set_option maxRecDepth 10000 in
set_option maxHeartbeats 8000000 in
theorem whichH_calls (w : World) {gc g mb N : Nat} {c : Ck} {d : Dk} {ns : List (Nat × Hd)} {S : Nat → Prop} (h : KC w gc g mb N c d ns S) (hN : N ≤ 16384) :
    Calls Try.prog 34 #[.pointer (some ⟨gc, 0, none⟩), .func (.func 35) #[] #[]] w (WhNew w (whichL c.l (fun _ => true) N)) := by
  obtain ⟨i0, hi, hz0, hz1, hz2⟩ := info_parts Try.info_intK
  obtain ⟨lq, lp, hG⟩ := h.km.cb
  have c2 : w.cell? ⟨gc, 2, none⟩ = some (.map (some mb)) := hG.cell 2
  have hmap := h.mp
  have hst := WI.start (ns := ns) (N := N) (p := fun _ => true)
  have hnodB : Hid (∀ W, Below w.heap.size w W → ∀ x ∈ ns, Nod W x.1 x.2) := fun W hB x hx => (h.km.below hB).nod x hx
  have hlo := Lib.hid h.lo
  have hcl := Lib.hid h.cl
  have hnum := Lib.hid h.num
  have hst := Lib.hid hst
  have hend : Hid (∀ xs lf, (∀ k, lf k = false) → WI N (ns.map (·.2)) (fun _ => true) lf xs → (xs.map Int.ofNat).mergeSort (fun x y => decide (x ≤ y)) = (whichL c.l (fun _ => true) N).map Int.ofNat) := fun xs lf hl hW => by
    refine which_sorted hW.nd (fun k => ?_)
    rw [mem_which, hW.mem, ← hcl.out]
    constructor
    · rintro ⟨_, hh, hm, he, hq⟩
      obtain ⟨y, hy, rfl⟩ := List.mem_map.1 hm
      exact ⟨he ▸ hlo.out y hy, _, hm, he, hq⟩
    · rintro ⟨_, h2⟩
      exact ⟨hl k, h2⟩
  clear h hG
  go_enter Try.func34, Try.ntmps34
  go_wp2_with (at_range; refine wpList_im_range rfl rfl Try.underlying3 Try.underlying75 hmap rfl ?_; intro w0 cnt hr hg0 hs0)
  try go_frame
  have hB0 : Hid (Below w.heap.size w w0) := (Below.refl _ _).grown hg0 (Nat.le_refl _) (fun j hj => by cases hj)
  obtain ⟨r, hr0⟩ : ∃ r, Hid (r = w.heap.size) := ⟨_, Lib.hid rfl⟩
  rw [← hr0.out] at hr ⊢
  have hr1 := Lib.hid hr
  clear hg0 hs0 c2 hmap hr
  go_loopw [5, 6, 7] (fun o _ _ wr => ∃ (xs : List Nat) (q : Nat) (A : Option Addr) (cc : Nat) (lf : Nat → Bool) (cnt : Nat), o = .slice A q cc ∧ Hid (q = xs.length) ∧ Hid (WI N (ns.map (·.2)) (fun _ => true) lf xs) ∧ Hid (wr.ownsRow w.heap.size 3 1 (.slice A q cc) q (nvs xs)) ∧ Hid (IR Try.prog 3 wr mb r N (mfN ns) lf cnt) ∧ Hid (Below w.heap.size w wr)) (fun _ _ _ wr => wr.rangeLeft mb r)
  case atStart => exact ⟨[], 0, none, 0, _, _, rfl, rfl, hst.out, World.ownsRow_nil _ _ _ _, hr1, hB0⟩
  case round =>
    obtain ⟨xs, q, A, cc, lf, cnt, rfl, hq, hW, hrow, hr, hB⟩ := hrel
    clear hr1 hB0 hst
    have hqN : q ≤ N := by rw [hq.out]; exact nodup_le hW.out.nd hW.out.le
    go_wp2_with (at_next; refine wpList_ir_next rfl rfl Try.underlying3 hr.out rfl ?_ ?_)
    · intro _ hl
      have hres := Lib.hid (hend.out xs lf hl hW.out)
      have hrow2 : wr.ownsRow w.heap.size 3 1 (.slice A q cc) (xs.map Int.ofNat).length (ivs (xs.map Int.ofNat)) := by
        rw [List.length_map, ← hq.out, ← nvs_ivs]
        exact hrow.out
      have hS := Lib.hid (SortI_calls w wr (.slice A q cc) (xs.map Int.ofNat) hrow2 (by rw [List.length_map, ← hq.out]; omega) hB.out)
      have hnw := Lib.hid (own_geB hrow.out)
      clear hrow2 hrow hW hq hr hend
      go_wp2_with fail
      refine hS.out.mono ?_
      rintro e w3 ⟨rfl, hB3, hrd⟩
      rw [hres.out, ← nvs_ivs] at hrd
      have hfin : Hid (WhNew w (whichL c.l (fun _ => true) N) (.returned (.slice A q cc)) w3) := ⟨_, rfl, hrd, hB3, hnw.out⟩
      clear hrd hB3 hS hres hnw
      go_wp2
      go_ret
      exact hfin.out
    · intro k v w1 cnt1 hk hlk hvk hr1 hlt hg1 hs1 hen
      obtain ⟨x, hx, rfl, rfl⟩ := mfN_inv hvk
      have hB1 : Below w.heap.size w w1 := hB.out.grown hg1 hB.out.size (fun j hj => by cases hj; exact Nat.le_of_eq hr0.out.symm)
      have hSc := Lib.hid (heldF_calls w1 x.1 x.2 (hnodB.out w1 hB1 x hx))
      have hrow1 : w1.ownsRow w.heap.size 3 1 (.slice A q cc) q (nvs xs) := own_chgB hrow.out (chg_grown hg1) (fun j hj e => by
        obtain ⟨cs, hb⟩ := own_kindB hrow.out hj
        exact hr.out.iter_ne hb e)
      have hyes : Hid (true = true → WI N (ns.map (·.2)) (fun _ => true) (fun j => lf j && !(j == x.2.n)) (xs ++ [x.2.n])) := fun hp => hW.out.yes hx hlk hp (hlo.out x hx)
      have hr2 := Lib.hid hr1
      have hle0 := Lib.hid (show cnt1 < cnt from hlt)
      have hclq := Lib.hid hr.out.left_eq
      have hB1 := Lib.hid hB1
      have hrow1 := Lib.hid hrow1
      have hxN := hlo.out x hx
      clear hr1 hlt hg1 hs1 hvk hr hB hrow hW hx hlk hk
      generalize x.2.n = kn at *
      go_wp2_with fail
      refine hSc.out.mono ?_
      rintro e w2 ⟨rfl, rfl⟩
      have hp : true = true := rfl
      have hW2 := Lib.hid (hyes.out (by first | exact hp | trivial))
      clear hSc hyes hen
      have hrow2 := Lib.hid (World.ownsRow.alloc hrow1.out (.cells #[.int .i64 (kn : Int)] 3))
      have hrd2 : Hid (Rd (w1.alloc (.cells #[.int .i64 (kn : Int)] 3)) (.slice (some ⟨w1.heap.size, 0, none⟩) 1 1) [.int .i64 (kn : Int)]) := rd_new w1 [.int .i64 (kn : Int)] 3 1 rfl
      have hr3 := Lib.hid (hr2.out.alloc (.cells #[.int .i64 (kn : Int)] 3))
      have hszB := hB1.out.size
      go_wp2_with (at_builtin; refine stop_app rfl ?_)
      refine Stop.mk (wpList_app _ rfl rfl (us := [.int .i64 (kn : Int)]) (base := w.heap.size) Try.underlying22 hi hz0 hz1 hz2 rfl hrow2.out rfl hrd2.out rfl (by intro u hu; simp at hu; subst hu; rfl) ?_ ?_ (by rw [World.size_alloc]; omega) ?_)
      · unfold maxLen; simp only [List.length_cons, List.length_nil]; omega
      · simp only [List.length_cons, List.length_nil]; omega
      intro v9 w9 hown hg hat
      have hown : w9.ownsRow w.heap.size 3 1 v9 (q + 1) (nvs (xs ++ [kn])) := by
        unfold nvs at *
        rw [List.map_append]
        exact hown
      obtain ⟨A9, c9, rfl⟩ := own_shape hown
      have hr9 : Hid (IR Try.prog 3 w9 mb r N (mfN ns) (fun j => lf j && !(j == kn)) cnt1) := hr3.out.keep (hg.block _ hr3.out.im.lt (fun e => by
          obtain ⟨cs, hb⟩ := own_kindB hrow2.out e.symm
          exact absurd rfl (hr3.out.im.blk_ne hb))) (hg.block _ hr3.out.rlt (fun e => by
          obtain ⟨cs, hb⟩ := own_kindB hrow2.out e.symm
          exact absurd rfl (hr3.out.iter_ne hb)))
      have hB9 := Lib.hid ((hB1.out.alloc hszB (.cells #[.int .i64 (kn : Int)] 3)).grown hg (by rw [World.size_alloc]; omega) (fun j hj => own_geB hrow2.out j hj))
      have hown := Lib.hid hown
      have hq1 : Hid (q + 1 = (xs ++ [kn]).length) := by show _ = _; rw [List.length_append, ← hq.out]; rfl
      clear hg hat hrow1 hrow2 hrd2 hr3 hr2 hB1 hszB hq
      go_wp2
      go_roundw
      case rel => exact ⟨xs ++ [kn], q + 1, A9, c9, _, cnt1, rfl, hq1, hW2, hown, hr9, hB9⟩
      case measure => rw [hr9.out.left_eq, hclq.out]; exact hle0.out
set_option maxRecDepth 10000 in
set_option maxHeartbeats 8000000 in
theorem whichD_calls (w : World) {gc g mb N : Nat} {c : Ck} {d : Dk} {ns : List (Nat × Hd)} {S : Nat → Prop} (h : KC w gc g mb N c d ns S) (hN : N ≤ 16384) :
    Calls Try.prog 34 #[.pointer (some ⟨gc, 0, none⟩), .func (.func 42) #[] #[]] w (WhNew w (whichL c.l (fun h => h.dirty) N)) := by
  obtain ⟨i0, hi, hz0, hz1, hz2⟩ := info_parts Try.info_intK
  obtain ⟨lq, lp, hG⟩ := h.km.cb
  have c2 : w.cell? ⟨gc, 2, none⟩ = some (.map (some mb)) := hG.cell 2
  have hmap := h.mp
  have hst := WI.start (ns := ns) (N := N) (p := fun h => h.dirty)
  have hnodB : Hid (∀ W, Below w.heap.size w W → ∀ x ∈ ns, Nod W x.1 x.2) := fun W hB x hx => (h.km.below hB).nod x hx
  have hlo := Lib.hid h.lo
  have hcl := Lib.hid h.cl
  have hnum := Lib.hid h.num
  have hst := Lib.hid hst
  have hend : Hid (∀ xs lf, (∀ k, lf k = false) → WI N (ns.map (·.2)) (fun h => h.dirty) lf xs → (xs.map Int.ofNat).mergeSort (fun x y => decide (x ≤ y)) = (whichL c.l (fun h => h.dirty) N).map Int.ofNat) := fun xs lf hl hW => by
    refine which_sorted hW.nd (fun k => ?_)
    rw [mem_which, hW.mem, ← hcl.out]
    constructor
    · rintro ⟨_, hh, hm, he, hq⟩
      obtain ⟨y, hy, rfl⟩ := List.mem_map.1 hm
      exact ⟨he ▸ hlo.out y hy, _, hm, he, hq⟩
    · rintro ⟨_, h2⟩
      exact ⟨hl k, h2⟩
  clear h hG
  go_enter Try.func34, Try.ntmps34
  go_wp2_with (at_range; refine wpList_im_range rfl rfl Try.underlying3 Try.underlying75 hmap rfl ?_; intro w0 cnt hr hg0 hs0)
  try go_frame
  have hB0 : Hid (Below w.heap.size w w0) := (Below.refl _ _).grown hg0 (Nat.le_refl _) (fun j hj => by cases hj)
  obtain ⟨r, hr0⟩ : ∃ r, Hid (r = w.heap.size) := ⟨_, Lib.hid rfl⟩
  rw [← hr0.out] at hr ⊢
  have hr1 := Lib.hid hr
  clear hg0 hs0 c2 hmap hr
  go_loopw [5, 6, 7] (fun o _ _ wr => ∃ (xs : List Nat) (q : Nat) (A : Option Addr) (cc : Nat) (lf : Nat → Bool) (cnt : Nat), o = .slice A q cc ∧ Hid (q = xs.length) ∧ Hid (WI N (ns.map (·.2)) (fun h => h.dirty) lf xs) ∧ Hid (wr.ownsRow w.heap.size 3 1 (.slice A q cc) q (nvs xs)) ∧ Hid (IR Try.prog 3 wr mb r N (mfN ns) lf cnt) ∧ Hid (Below w.heap.size w wr)) (fun _ _ _ wr => wr.rangeLeft mb r)
  case atStart => exact ⟨[], 0, none, 0, _, _, rfl, rfl, hst.out, World.ownsRow_nil _ _ _ _, hr1, hB0⟩
  case round =>
    obtain ⟨xs, q, A, cc, lf, cnt, rfl, hq, hW, hrow, hr, hB⟩ := hrel
    clear hr1 hB0 hst
    have hqN : q ≤ N := by rw [hq.out]; exact nodup_le hW.out.nd hW.out.le
    go_wp2_with (at_next; refine wpList_ir_next rfl rfl Try.underlying3 hr.out rfl ?_ ?_)
    · intro _ hl
      have hres := Lib.hid (hend.out xs lf hl hW.out)
      have hrow2 : wr.ownsRow w.heap.size 3 1 (.slice A q cc) (xs.map Int.ofNat).length (ivs (xs.map Int.ofNat)) := by
        rw [List.length_map, ← hq.out, ← nvs_ivs]
        exact hrow.out
      have hS := Lib.hid (SortI_calls w wr (.slice A q cc) (xs.map Int.ofNat) hrow2 (by rw [List.length_map, ← hq.out]; omega) hB.out)
      have hnw := Lib.hid (own_geB hrow.out)
      clear hrow2 hrow hW hq hr hend
      go_wp2_with fail
      refine hS.out.mono ?_
      rintro e w3 ⟨rfl, hB3, hrd⟩
      rw [hres.out, ← nvs_ivs] at hrd
      have hfin : Hid (WhNew w (whichL c.l (fun h => h.dirty) N) (.returned (.slice A q cc)) w3) := ⟨_, rfl, hrd, hB3, hnw.out⟩
      clear hrd hB3 hS hres hnw
      go_wp2
      go_ret
      exact hfin.out
    · intro k v w1 cnt1 hk hlk hvk hr1 hlt hg1 hs1 hen
      obtain ⟨x, hx, rfl, rfl⟩ := mfN_inv hvk
      have hB1 : Below w.heap.size w w1 := hB.out.grown hg1 hB.out.size (fun j hj => by cases hj; exact Nat.le_of_eq hr0.out.symm)
      have hSc := Lib.hid (dirtyF_calls w1 x.1 x.2 (hnodB.out w1 hB1 x hx))
      have hrow1 : w1.ownsRow w.heap.size 3 1 (.slice A q cc) q (nvs xs) := own_chgB hrow.out (chg_grown hg1) (fun j hj e => by
        obtain ⟨cs, hb⟩ := own_kindB hrow.out hj
        exact hr.out.iter_ne hb e)
      have hyes : Hid (x.2.dirty = true → WI N (ns.map (·.2)) (fun h => h.dirty) (fun j => lf j && !(j == x.2.n)) (xs ++ [x.2.n])) := fun hp => hW.out.yes hx hlk hp (hlo.out x hx)
      have hnoo : Hid (x.2.dirty = false → WI N (ns.map (·.2)) (fun h => h.dirty) (fun j => lf j && !(j == x.2.n)) xs) := fun hp => hW.out.no hnum.out hx hlk hp
      have hr2 := Lib.hid hr1
      have hle0 := Lib.hid (show cnt1 < cnt from hlt)
      have hclq := Lib.hid hr.out.left_eq
      have hB1 := Lib.hid hB1
      have hrow1 := Lib.hid hrow1
      have hxN := hlo.out x hx
      clear hr1 hlt hg1 hs1 hvk hr hB hrow hW hx hlk hk
      generalize x.2.n = kn at *
      go_wp2_with fail
      refine hSc.out.mono ?_
      rintro e w2 ⟨rfl, rfl⟩
      cases hp : x.2.dirty with
      | false =>
        have hW2 := Lib.hid (hnoo.out hp)
        clear hSc hyes hnoo hen
        go_wp2
        go_roundw
        case rel => exact ⟨xs, q, A, cc, _, cnt1, rfl, hq, hW2, hrow1, hr2, hB1⟩
        case measure => rw [hr2.out.left_eq, hclq.out]; exact hle0.out
      | true =>
        have hW2 := Lib.hid (hyes.out (by first | exact hp | trivial))
        clear hSc hyes hnoo hen
        have hrow2 := Lib.hid (World.ownsRow.alloc hrow1.out (.cells #[.int .i64 (kn : Int)] 3))
        have hrd2 : Hid (Rd (w1.alloc (.cells #[.int .i64 (kn : Int)] 3)) (.slice (some ⟨w1.heap.size, 0, none⟩) 1 1) [.int .i64 (kn : Int)]) := rd_new w1 [.int .i64 (kn : Int)] 3 1 rfl
        have hr3 := Lib.hid (hr2.out.alloc (.cells #[.int .i64 (kn : Int)] 3))
        have hszB := hB1.out.size
        go_wp2_with (at_builtin; refine stop_app rfl ?_)
        refine Stop.mk (wpList_app _ rfl rfl (us := [.int .i64 (kn : Int)]) (base := w.heap.size) Try.underlying22 hi hz0 hz1 hz2 rfl hrow2.out rfl hrd2.out rfl (by intro u hu; simp at hu; subst hu; rfl) ?_ ?_ (by rw [World.size_alloc]; omega) ?_)
        · unfold maxLen; simp only [List.length_cons, List.length_nil]; omega
        · simp only [List.length_cons, List.length_nil]; omega
        intro v9 w9 hown hg hat
        have hown : w9.ownsRow w.heap.size 3 1 v9 (q + 1) (nvs (xs ++ [kn])) := by
          unfold nvs at *
          rw [List.map_append]
          exact hown
        obtain ⟨A9, c9, rfl⟩ := own_shape hown
        have hr9 : Hid (IR Try.prog 3 w9 mb r N (mfN ns) (fun j => lf j && !(j == kn)) cnt1) := hr3.out.keep (hg.block _ hr3.out.im.lt (fun e => by
            obtain ⟨cs, hb⟩ := own_kindB hrow2.out e.symm
            exact absurd rfl (hr3.out.im.blk_ne hb))) (hg.block _ hr3.out.rlt (fun e => by
            obtain ⟨cs, hb⟩ := own_kindB hrow2.out e.symm
            exact absurd rfl (hr3.out.iter_ne hb)))
        have hB9 := Lib.hid ((hB1.out.alloc hszB (.cells #[.int .i64 (kn : Int)] 3)).grown hg (by rw [World.size_alloc]; omega) (fun j hj => own_geB hrow2.out j hj))
        have hown := Lib.hid hown
        have hq1 : Hid (q + 1 = (xs ++ [kn]).length) := by show _ = _; rw [List.length_append, ← hq.out]; rfl
        clear hg hat hrow1 hrow2 hrd2 hr3 hr2 hB1 hszB hq
        go_wp2
        go_roundw
        case rel => exact ⟨xs ++ [kn], q + 1, A9, c9, _, cnt1, rfl, hq1, hW2, hown, hr9, hB9⟩
        case measure => rw [hr9.out.left_eq, hclq.out]; exact hle0.out
def heldL (c : Ck) (N : Nat) : List Nat := whichL c.l (fun _ => true) N
def dirtyL (c : Ck) (N : Nat) : List Nat := whichL c.l (fun h => h.dirty) N
set_option maxRecDepth 10000 in
theorem Held_calls (w : World) {gc g mb N : Nat} {c : Ck} {d : Dk} {ns : List (Nat × Hd)} {S : Nat → Prop} (h : KC w gc g mb N c d ns S) (hN : N ≤ 16384) :
    Calls Try.prog 13 #[.pointer (some ⟨gc, 0, none⟩)] w (WhOut w (heldL c N)) := by
  have hw := Lib.hid (whichH_calls w h hN)
  clear h
  go_enter Try.func13, Try.ntmps13
  go_wp2_with fail
  refine hw.out.mono ?_
  rintro e w1 ⟨v, rfl, h1, h2, h3⟩
  go_wp2
  go_ret
  exact ⟨v, rfl, h1, h2⟩
set_option maxRecDepth 10000 in
theorem DirtyN_calls (w : World) {gc g mb N : Nat} {c : Ck} {d : Dk} {ns : List (Nat × Hd)} {S : Nat → Prop} (h : KC w gc g mb N c d ns S) (hN : N ≤ 16384) :
    Calls Try.prog 20 #[.pointer (some ⟨gc, 0, none⟩)] w (WhNew w (dirtyL c N)) := by
  have hw := Lib.hid (whichD_calls w h hN)
  clear h
  go_enter Try.func20, Try.ntmps20
  go_wp2_with fail
  refine hw.out.mono ?_
  rintro e w1 ⟨v, rfl, h1, h2, h3⟩
  go_wp2
  go_ret
  exact ⟨v, rfl, h1, h2, h3⟩
theorem Dirty_calls (w : World) {gc g mb N : Nat} {c : Ck} {d : Dk} {ns : List (Nat × Hd)} {S : Nat → Prop} (h : KC w gc g mb N c d ns S) (hN : N ≤ 16384) :
    Calls Try.prog 20 #[.pointer (some ⟨gc, 0, none⟩)] w (WhOut w (dirtyL c N)) :=
  (DirtyN_calls w h hN).mono fun e w' h => by
    obtain ⟨v, he, h1, h2, _⟩ := h
    exact ⟨v, he, h1, h2⟩
end Go.Proofs.Ytfapehgjiglflaa
