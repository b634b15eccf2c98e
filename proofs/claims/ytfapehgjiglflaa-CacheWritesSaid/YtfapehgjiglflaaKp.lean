/- The cache's state: ring, map, disk. -/
import Derived.Test.YtfapehgjiglflaaKo
namespace Go.Proofs.Ytfapehgjiglflaa
open Go.RowKit
def mfN (ns : List (Nat × Hd)) (j : Nat) : Option Value := (ns.find? fun x => x.2.n == j).map fun x => .pointer (some ⟨x.1, 0, none⟩)
theorem mfN_app (u v : List (Nat × Hd)) (j : Nat) : mfN (u ++ v) j = (mfN u j).or (mfN v j) := by
  unfold mfN
  rw [List.find?_append]
  cases List.find? (fun x => x.2.n == j) u <;> rfl
theorem mfN_cons (x : Nat × Hd) (v : List (Nat × Hd)) (j : Nat) : mfN (x :: v) j = if j = x.2.n then some (.pointer (some ⟨x.1, 0, none⟩)) else mfN v j := by
  unfold mfN
  rw [List.find?_cons]
  by_cases h : j = x.2.n
  · subst h; simp
  · rw [if_neg h]
    have : (x.2.n == j) = false := beq_eq_false_iff_ne.2 (fun e => h e.symm)
    rw [this]
theorem mfN_off {ns : List (Nat × Hd)} {j : Nat} (h : j ∉ ns.map (·.2.n)) : mfN ns j = none := by
  unfold mfN
  rw [List.find?_eq_none.2 (fun x hx => ?_)]
  · rfl
  · simp only [beq_iff_eq]
    exact fun e => h (List.mem_map.2 ⟨x, hx, e⟩)
theorem mfN_on {ns : List (Nat × Hd)} {j : Nat} (h : j ∈ ns.map (·.2.n)) : (mfN ns j).isSome = true := by
  induction ns with
  | nil => simp at h
  | cons x v ih =>
    rw [mfN_cons]
    by_cases e : j = x.2.n
    · rw [if_pos e]; rfl
    · rw [if_neg e]
      exact ih (by rw [List.map_cons] at h; exact (List.mem_cons.1 h).resolve_left e)
theorem mfN_some {ns : List (Nat × Hd)} {j : Nat} (h : (mfN ns j).isSome = true) : j ∈ ns.map (·.2.n) := by
  rcases Decidable.em (j ∈ ns.map (·.2.n)) with h1 | h1
  · exact h1
  · rw [mfN_off h1] at h; cases h
theorem num_split {u v : List (Nat × Hd)} {x : Nat × Hd} (h : ((u ++ x :: v).map (·.2.n)).Nodup) : x.2.n ∉ u.map (·.2.n) ∧ x.2.n ∉ v.map (·.2.n) := by
  rw [List.map_append, List.map_cons] at h
  have h1 := List.nodup_append.1 h
  exact ⟨fun hm => h1.2.2 _ hm _ (by simp) rfl, (List.nodup_cons.1 h1.2.1).1⟩
theorem mfN_at {u v : List (Nat × Hd)} {x : Nat × Hd} (h : ((u ++ x :: v).map (·.2.n)).Nodup) : mfN (u ++ x :: v) x.2.n = some (.pointer (some ⟨x.1, 0, none⟩)) := by
  rw [mfN_app, mfN_off (num_split h).1, mfN_cons, if_pos rfl]
  rfl
theorem mfN_move {u v : List (Nat × Hd)} {x : Nat × Hd} (h : ((u ++ x :: v).map (·.2.n)).Nodup) : mfN (x :: (u ++ v)) = mfN (u ++ x :: v) := by
  funext j
  rw [mfN_cons, mfN_app, mfN_app, mfN_cons]
  by_cases e : j = x.2.n
  · rw [if_pos e, if_pos e, mfN_off (e ▸ (num_split h).1)]
    rfl
  · rw [if_neg e, if_neg e]
theorem mfN_del {u v : List (Nat × Hd)} {x : Nat × Hd} (h : ((u ++ x :: v).map (·.2.n)).Nodup) : (fun j => if j = x.2.n then none else mfN (u ++ x :: v) j) = mfN (u ++ v) := by
  funext j
  by_cases e : j = x.2.n
  · rw [if_pos e, mfN_off]
    rw [List.map_append, List.mem_append, e]
    exact not_or.2 (num_split h)
  · rw [if_neg e, mfN_app, mfN_app, mfN_cons, if_neg e]
theorem mfN_ins (ns : List (Nat × Hd)) (k : Nat) (hd : Hd) : (fun j => if j = hd.n then some (Value.pointer (some ⟨k, 0, none⟩)) else mfN ns j) = mfN ((k, hd) :: ns) := by
  funext j
  rw [mfN_cons]
theorem mfN_upd (u v : List (Nat × Hd)) (x : Nat × Hd) (h' : Hd) (e : h'.n = x.2.n) : mfN (u ++ (x.1, h') :: v) = mfN (u ++ x :: v) := by
  funext j
  rw [mfN_app, mfN_app, mfN_cons, mfN_cons, e]
theorem mfN_len {ns : List (Nat × Hd)} {N : Nat} (h : (ns.map (·.2.n)).Nodup) (hlo : ∀ x ∈ ns, x.2.n < N) : ((List.range N).filter fun k => (mfN ns k).isSome).length = ns.length := by
  have hp : ((List.range N).filter fun k => (mfN ns k).isSome).Perm (ns.map (·.2.n)) := by
    rw [List.perm_ext_iff_of_nodup (List.Pairwise.filter _ List.nodup_range) h]
    intro a
    rw [List.mem_filter, List.mem_range]
    constructor
    · rintro ⟨_, h2⟩
      exact mfN_some h2
    · intro ha
      obtain ⟨x, hx, e⟩ := List.mem_map.1 ha
      exact ⟨e ▸ hlo x hx, mfN_on ha⟩
  rw [hp.length_eq, List.length_map]
/-- The whole: the disk, the ring, the map. -/
structure KC (w : World) (gc g mb N : Nat) (c : Ck) (d : Dk) (ns : List (Nat × Hd)) (S : Nat → Prop) : Prop where
  dk : DK w g d S
  km : KM w gc g mb c ns
  mp : IM Try.prog 3 w mb N (mfN ns)
  mn : ¬ S mb
  cl : ns.map (·.2) = c.l
  num : (ns.map (·.2.n)).Nodup
  lo : ∀ x ∈ ns, x.2.n < N
def footK (gc mb : Nat) (ns : List (Nat × Hd)) (k : Nat) : Prop := k = gc ∨ k = mb ∨ k ∈ ns.map (·.1)
namespace KC
variable {w w' : World} {gc g mb N : Nat} {c : Ck} {d d' : Dk} {ns : List (Nat × Hd)} {S : Nat → Prop}
theorem kind (h : KC w gc g mb N c d ns S) {k : Nat} (hk : footK gc mb ns k) : k = mb ∨ ∃ t cs, Blk w k t cs ∧ kindK t := by
  rcases hk with rfl | rfl | hk
  · exact .inr (h.km.kind (.inl rfl))
  · exact .inl rfl
  · exact .inr (h.km.kind (.inr hk))
theorem lt (h : KC w gc g mb N c d ns S) {k : Nat} (hk : footK gc mb ns k) : k < w.heap.size := by
  rcases h.kind hk with rfl | ⟨t, cs, hb, _⟩
  · exact h.mp.lt
  · exact hb.lt
theorem notS (h : KC w gc g mb N c d ns S) {k : Nat} (hk : footK gc mb ns k) : ¬ S k := fun hS => by
  rcases h.kind hk with rfl | ⟨t, cs, hb, ht⟩
  · exact h.mn hS
  · rcases h.dk.kind hS hb with e | e
    · exact (kindK_ne ht).1 e
    · exact (kindK_ne ht).2.1 e
/-- The ring's blocks hold neither bytes nor ints. -/
theorem notk (h : KC w gc g mb N c d ns S) {k t : Nat} {cs : Array Value} (hb : Blk w k t cs) (ht : ¬ kindK t) : ¬ footK gc mb ns k := fun hk => by
  rcases h.kind hk with rfl | ⟨t', cs', hb', ht'⟩
  · exact absurd rfl (h.mp.blk_ne hb)
  · unfold Blk at hb hb'
    rw [hb] at hb'
    injection hb' with hb'
    injection hb' with _ e
    exact ht (e ▸ ht')
theorem chg {S2 : Nat → Prop} (h : KC w gc g mb N c d ns S) (hb : Chg S2 w w') (h1 : ∀ k, S k → ¬ S2 k) (h2 : ∀ k, footK gc mb ns k → ¬ S2 k) (h8 : ∀ k cs, Blk w k 5 cs → ¬ S2 k) (hi : ∀ k cs, Blk w k 3 cs → ¬ S2 k) : KC w' gc g mb N c d ns S where
  dk := DKF.chg h.dk hb h1 h8 hi
  km := h.km.chg hb (h2 gc (.inl rfl)) (fun x hx => h2 _ (.inr (.inr (List.mem_map.2 ⟨x, hx, rfl⟩)))) h8
  mp := h.mp.chg hb (h2 mb (.inr (.inl rfl)))
  mn := h.mn
  cl := h.cl
  num := h.num
  lo := h.lo
theorem below (h : KC w gc g mb N c d ns S) (hb : Below w.heap.size w w') : KC w' gc g mb N c d ns S :=
  h.chg (S2 := fun k => w.heap.size ≤ k) ((Chg.of_below hb).mono (fun _ _ h => h)) (fun k hk => Nat.not_le.2 (h.dk.lt hk)) (fun k hk => Nat.not_le.2 (h.lt hk)) (fun k cs hk => Nat.not_le.2 hk.lt) (fun k cs hk => Nat.not_le.2 hk.lt)
/-- The disk's own calls. -/
theorem disk (h : KC w gc g mb N c d ns S) (hw : Wrote w S g d' w') : ∃ S', KC w' gc g mb N c d' ns S' ∧ Chg S w w' ∧ ∀ k, S' k → S k ∨ w.heap.size ≤ k := by
  obtain ⟨S', h1, hc, hs⟩ := hw
  refine ⟨S', ⟨h1, h.km.chg hc (fun hS => h.notS (.inl rfl) hS) (fun x hx hS => h.notS (.inr (.inr (List.mem_map.2 ⟨x, hx, rfl⟩))) hS) h.dk.not8, h.mp.chg hc h.mn, fun hS => ?_, h.cl, h.num, h.lo⟩, hc, hs⟩
  rcases hs mb hS with e | e
  · exact h.mn e
  · have := h.mp.lt; omega
end KC
/-- The cache's own numbers are set. -/
theorem KM.cset {w : World} {gc g mb mb' : Nat} {c c' : Ck} {ns : List (Nat × Hd)} (h : KM w gc g mb c ns) {i : Nat} (u : Value) (hi : i ≠ 7 ∧ i ≠ 8) (hc : CBlk (w.setCell ⟨gc, i, none⟩ u) gc g mb' c') : KM (w.setCell ⟨gc, i, none⟩ u) gc g mb' c' ns where
  cb := hc
  nod := fun x hx => (h.nod x hx).chg (chg_set ⟨gc, i, none⟩ u) (fun e => (h.nod x hx).ne h.cb e) (fun k cs hk e => by
    obtain ⟨p, q, hB⟩ := h.cb
    have e : k = gc := e
    subst e
    exact absurd rfl (hk.ne_ hB (by decide)))
  lnk := by
    have hn : ∀ a, (⟨gc, i, none⟩ : Addr) ≠ nx gc a ∧ (⟨gc, i, none⟩ : Addr) ≠ pv gc a := fun a => by
      constructor <;> intro e <;> injection e with e1 e2
      · rw [(ofs_link.1 e1.symm).2] at e2; omega
      · rw [(ofs_link.1 e1.symm).1] at e2; omega
    exact h.lnk.keep (fun a _ => cso (hn a).1) (fun a _ => cso (hn a).2)
  dup := h.dup
/-- A block's own numbers are set. -/
theorem KM.nset {w : World} {gc g mb : Nat} {c : Ck} {u v : List (Nat × Hd)} {x : Nat × Hd} (h : KM w gc g mb c (u ++ x :: v)) {i : Nat} (uu : Value) (hi : i < 4) {h' : Hd} (hn : Nod (w.setCell ⟨x.1, i, none⟩ uu) x.1 h') : KM (w.setCell ⟨x.1, i, none⟩ uu) gc g mb c (u ++ (x.1, h') :: v) where
  cb := h.cb.chg (chg_set ⟨x.1, i, none⟩ uu) (fun e => (h.nod x (by simp)).ne h.cb (show x.1 = gc from e.symm))
  nod := fun z hz => by
    have hother : ∀ z ∈ u ++ x :: v, z.1 ≠ x.1 → Nod (w.setCell ⟨x.1, i, none⟩ uu) z.1 z.2 := fun z hz hne => (h.nod z hz).chg (chg_set ⟨x.1, i, none⟩ uu) (fun e => hne e) (fun k cs hk e => by
      obtain ⟨cs', hB⟩ := (h.nod x (by simp)).blk
      have e : k = x.1 := e
      subst e
      exact absurd rfl (hk.ne_ hB (by decide)))
    have hd := h.dup
    rw [List.map_append, List.map_cons] at hd
    have h7 := List.nodup_append.1 hd
    rcases List.mem_append.1 hz with hz | hz
    · exact hother z (List.mem_append.2 (.inl hz)) (fun e => h7.2.2 _ (List.mem_map.2 ⟨z, hz, rfl⟩) _ (by simp) e)
    · rcases List.mem_cons.1 hz with rfl | hz
      · exact hn
      · exact hother z (List.mem_append.2 (.inr (List.mem_cons_of_mem _ hz))) (fun e => (List.nodup_cons.1 h7.2.1).1 (e ▸ List.mem_map.2 ⟨z, hz, rfl⟩))
  lnk := by
    have hn : ∀ a, (⟨x.1, i, none⟩ : Addr) ≠ nx gc a ∧ (⟨x.1, i, none⟩ : Addr) ≠ pv gc a := fun a => by
      constructor <;> intro e <;> injection e with e1 e2 <;> omega
    have e : (u ++ (x.1, h') :: v).map (·.1) = (u ++ x :: v).map (·.1) := by simp
    rw [e]
    exact h.lnk.keep (fun a _ => cso (hn a).1) (fun a _ => cso (hn a).2)
  dup := by
    have e : (u ++ (x.1, h') :: v).map (·.1) = (u ++ x :: v).map (·.1) := by simp
    rw [e]
    exact h.dup
theorem CBlk.hits {w : World} {gc g mb : Nat} {c : Ck} (h : CBlk w gc g mb c) (n : Int) : CBlk (w.setCell ⟨gc, 9, none⟩ (.int .i64 n)) gc g mb ⟨c.size, c.l, n, c.misses, c.evs⟩ := by
  obtain ⟨p, q, hB⟩ := h
  exact ⟨p, q, hB.set_ 9 _⟩
theorem CBlk.miss {w : World} {gc g mb : Nat} {c : Ck} (h : CBlk w gc g mb c) (n : Int) : CBlk (w.setCell ⟨gc, 10, none⟩ (.int .i64 n)) gc g mb ⟨c.size, c.l, c.hits, n, c.evs⟩ := by
  obtain ⟨p, q, hB⟩ := h
  exact ⟨p, q, hB.set_ 10 _⟩
theorem CBlk.evct {w : World} {gc g mb : Nat} {c : Ck} (h : CBlk w gc g mb c) (n : Int) : CBlk (w.setCell ⟨gc, 11, none⟩ (.int .i64 n)) gc g mb ⟨c.size, c.l, c.hits, c.misses, n⟩ := by
  obtain ⟨p, q, hB⟩ := h
  exact ⟨p, q, hB.set_ 11 _⟩
theorem CBlk.list {w : World} {gc g mb : Nat} {c : Ck} (h : CBlk w gc g mb c) (l : List Hd) : CBlk w gc g mb ⟨c.size, l, c.hits, c.misses, c.evs⟩ := h
theorem KM.list {w : World} {gc g mb : Nat} {c : Ck} {ns : List (Nat × Hd)} (h : KM w gc g mb c ns) (l : List Hd) : KM w gc g mb ⟨c.size, l, c.hits, c.misses, c.evs⟩ ns := ⟨h.cb, h.nod, h.lnk, h.dup⟩
end Go.Proofs.Ytfapehgjiglflaa
