/- A map keyed by ints from 0 on, its values as they lie in memory. -/
import Derived.Test.YtefbmbfhhhjgkaaByt
import Derived.Maps.RangeWalk
import Derived.Lib.SlKeysI
namespace Go.Proofs.Ytefbmbfhhhjgkaa
open Go.RowKit Go.Maps Go.WideShapes
def rawR (v : Value) : Option (DataW Value × List MemPlace) := some (.held v, [])
def ik (k : Nat) : Lit := .int .i64 (k : Int)
def hvw (z : DataW Value) : Option Value → DataW Value
  | some v => .held v
  | none => z
theorem ik_inj {a b : Nat} (h : ik a = ik b) : a = b := by
  unfold ik at h
  injection h with _ h
  omega
theorem ik_same (a b : Nat) : (ik a).sameKey (ik b) = (a == b) := by
  unfold ik Lit.sameKey
  by_cases h : a = b
  · subst h; simp
  · have : ¬ ((a : Int) = (b : Int)) := by omega
    simp [h, this]
theorem ik_key (a : Nat) : WideAt.IsKeyLit (ik a) := trivial
theorem mem_ins {p x : Lit × DataW Value} : ∀ {l : List (Lit × DataW Value)}, p ∈ DataW.insert x l → p = x ∨ p ∈ l
  | [], h => by simp [DataW.insert] at h; exact .inl h
  | y :: r, h => by
    unfold DataW.insert at h
    split at h
    · simpa using h
    · rcases List.mem_cons.1 h with rfl | h
      · exact .inr List.mem_cons_self
      · rcases mem_ins h with h | h
        · exact .inl h
        · exact .inr (List.mem_cons_of_mem _ h)
/-- D holds just f, its keys below N. -/
structure KD (N : Nat) (D : DataW Value) (f : Nat → Option Value) : Prop where
  tidy : Tidy D
  key : ∀ es, D = .map es → ∀ p ∈ es, ∃ k, k < N ∧ p.1 = ik k
  val : ∀ k z, D.atKey (ik k) z = hvw z (f k)
namespace KD
variable {N : Nat} {D : DataW Value} {f : Nat → Option Value}
theorem has (h : KD N D f) (k : Nat) : Maps.has D (ik k) = (f k).isSome := by
  cases hf : f k with
  | none => exact has_false_of_atKey (fun z => by rw [h.val, hf]; rfl)
  | some v => exact has_true_of_atKey (y := .held v) (fun z => by rw [h.val, hf]; rfl)
theorem has_key (h : KD N D f) {l : Lit} (hl : Maps.has D l = true) : ∃ k, k < N ∧ l = ik k := by
  obtain ⟨es, rfl, _⟩ := h.tidy
  obtain ⟨p, hp, hpl⟩ := List.any_eq_true.1 hl
  obtain ⟨k, hk, e⟩ := h.key es rfl p hp
  exact ⟨k, hk, by rw [← WideAt.sameKey_eq hpl, e]⟩
theorem off (h : KD N D f) {k : Nat} (hk : N ≤ k) : f k = none := by
  cases hf : f k with
  | none => rfl
  | some v =>
    obtain ⟨j, hj, e⟩ := h.has_key (l := ik k) (by rw [h.has, hf]; rfl)
    have := ik_inj e
    omega
theorem empty (N : Nat) : KD N (.map []) (fun _ => none) := ⟨tidy_empty, fun es e p hp => (by cases e; cases hp), fun k z => rfl⟩
theorem put (h : KD N D f) {k : Nat} (hk : k < N) (v : Value) : KD N (D.put (ik k) (.held v)) (fun j => if j = k then some v else f j) := by
  refine ⟨h.tidy.put (ik_key k) _, fun es he p hp => ?_, fun j z => ?_⟩
  · obtain ⟨es0, rfl, _⟩ := h.tidy
    cases he
    rcases mem_ins hp with rfl | hp
    · exact ⟨k, hk, rfl⟩
    · exact h.key es0 rfl p ((List.mem_filter.1 hp).1)
  · by_cases e : j = k
    · subst e
      rw [atKey_put_same h.tidy.isMap (ik_key j), if_pos rfl]
      rfl
    · rw [atKey_put_other (fun x => e (ik_inj x)), if_neg e, h.val]
theorem del (h : KD N D f) (k : Nat) : KD N (D.del (ik k)) (fun j => if j = k then none else f j) := by
  refine ⟨h.tidy.del _, fun es he p hp => ?_, fun j z => ?_⟩
  · obtain ⟨es0, rfl, _⟩ := h.tidy
    cases he
    exact h.key es0 rfl p ((List.mem_filter.1 hp).1)
  · by_cases e : j = k
    · subst e
      rw [atKey_del_same, if_pos rfl]
      rfl
    · rw [atKey_del_other (fun x => e (ik_inj x)), if_neg e, h.val]
/-- Its keys, in the order of the reading. -/
theorem keys (h : KD N D f) : (((List.range N).filter fun k => (f k).isSome).map Int.ofNat).Perm (intKeys D) := by
  have hh := h.has
  obtain ⟨es, rfl, hp⟩ := h.tidy
  have hk := h.key es rfl
  refine (List.perm_ext_iff_of_nodup ?_ ?_).2 (fun a => ?_)
  · refine List.Pairwise.map _ (R := (· ≠ ·)) (fun a b hab e => hab (Int.ofNat.inj e)) ?_
    exact List.Pairwise.filter _ List.nodup_range
  · show List.Pairwise _ (es.map fun p => intOf p.1)
    refine List.pairwise_map.2 (hp.imp_of_mem (fun {a b} ha hb hab e => hab ?_))
    obtain ⟨i, _, ei⟩ := hk a ha
    obtain ⟨j, _, ej⟩ := hk b hb
    rw [ei, ej] at e ⊢
    have : (i : Int) = (j : Int) := e
    rw [show i = j by omega]
  · constructor
    · intro ha
      obtain ⟨k, hk1, rfl⟩ := List.mem_map.1 ha
      obtain ⟨_, hk2⟩ := List.mem_filter.1 hk1
      rw [← hh] at hk2
      obtain ⟨p, hp1, hp2⟩ := List.any_eq_true.1 hk2
      exact List.mem_map.2 ⟨p, hp1, by rw [WideAt.sameKey_eq hp2]; rfl⟩
    · intro ha
      obtain ⟨p, hp1, rfl⟩ := List.mem_map.1 ha
      obtain ⟨k, hkN, e⟩ := hk p hp1
      refine List.mem_map.2 ⟨k, List.mem_filter.2 ⟨List.mem_range.2 hkN, ?_⟩, by rw [e]; rfl⟩
      rw [← hh]
      exact List.any_eq_true.2 ⟨p, hp1, by rw [e, ik_same]; simp⟩
theorem size_le (h : KD N D f) : Maps.size D ≤ N := by
  have := h.keys.length_eq
  obtain ⟨es, rfl, _⟩ := h.tidy
  simp only [intKeys, List.length_map] at this
  show es.length ≤ N
  rw [← this]
  exact Nat.le_trans (List.length_filter_le _ _) (by simp)
theorem size_eq (h : KD N D f) : Maps.size D = ((List.range N).filter fun k => (f k).isSome).length := by
  have := h.keys.length_eq
  obtain ⟨es, rfl, _⟩ := h.tidy
  simp only [intKeys, List.length_map] at this
  exact this.symm
theorem sorted (h : KD N D f) {ss : List Int} (hs : ss.Perm (intKeys D)) : ss.mergeSort (fun x y => decide (x ≤ y)) = ((List.range N).filter fun k => (f k).isSome).map Int.ofNat := by
  rw [mergeSort_of_perm_i (hs.trans h.keys.symm)]
  refine List.mergeSort_of_pairwise ?_
  refine List.Pairwise.map _ (R := (· < ·)) (fun a b hab => by simp; omega) ?_
  exact List.Pairwise.filter _ List.pairwise_lt_range
end KD
/-- Block b is a map that holds f, its keys below N. -/
def IM (P : Program) (kt : TypeId) (w : World) (b N : Nat) (f : Nat → Option Value) : Prop := ∃ D, w.ownsMap P kt rawR b N D ∧ KD N D f
section
variable {P : Program} {kt mt et : TypeId} {w w' : World} {b N : Nat} {f : Nat → Option Value}
theorem own_fit {n : Nat} {D : DataW Value} (h : w.ownsMap P kt rawR b n D) (hk : KD N D f) : w.ownsMap P kt rawR b N D := by
  have hs := hk.size_le
  obtain ⟨es, clock, hb, F, _, rfl⟩ := h
  exact ⟨es, clock, hb, F, by simpa [Maps.size, length_sorted] using hs, rfl⟩
theorem IM.lt (h : IM P kt w b N f) : b < w.heap.size := let ⟨_, h, _⟩ := h; h.lt
theorem IM.off (h : IM P kt w b N f) {k : Nat} (hk : N ≤ k) : f k = none := let ⟨_, _, h⟩ := h; h.off hk
theorem IM.keep (h : IM P kt w b N f) (hk : w'.heap[b]? = w.heap[b]?) : IM P kt w' b N f := by
  obtain ⟨D, ⟨es, clock, hb, F, hs, hD⟩, hd⟩ := h
  exact ⟨D, ⟨es, clock, hk.trans hb, F, hs, hD⟩, hd⟩
theorem IM.chg {S : Nat → Prop} (h : IM P kt w b N f) (hb : Chg S w w') (hs : ¬ S b) : IM P kt w' b N f := h.keep (hb.block b h.lt hs)
theorem IM.alloc (h : IM P kt w b N f) (o : Obj) : IM P kt (w.alloc o) b N f := h.keep (Below.heap_alloc w o b h.lt)
theorem IM.grown {row : Option Nat} (h : IM P kt w b N f) (hb : w.grownBy w' row) (hg : some b ≠ row) : IM P kt w' b N f := h.keep (hb.block b h.lt hg)
theorem IM.far (h : IM P kt w b N f) {p : Addr} (hp : b ≠ p.block) (u : Value) : IM P kt (w.setCell p u) b N f := h.keep (Below.heap_setCell w p u b hp)
theorem IM.ext (h : IM P kt w b N f) {f' : Nat → Option Value} (he : ∀ k, f' k = f k) : IM P kt w b N f' := by rw [show f' = f from funext he]; exact h
theorem IM.made (P : Program) (kt : TypeId) (w : World) (N : Nat) : IM P kt (w.alloc (.map #[] 0)) w.heap.size N (fun _ => none) :=
  ⟨.map [], (World.ownsMap_made w P kt rawR).mono (Nat.zero_le _), KD.empty N⟩
theorem IM.blk_ne {g : Nat} {t : TypeId} {cs : Array Value} (h : IM P kt w b N f) (hb : Blk w g t cs) : g ≠ b := by
  rintro rfl
  obtain ⟨D, ⟨es, clock, hb', _⟩, _⟩ := h
  unfold Blk at hb
  rw [hb] at hb'
  cases hb'
theorem key_of (hkt : P.underlying kt = some (.int .i64)) {k : Nat} (h : k < 9223372036854775808) : keyOf P kt (.int .i64 (k : Int)) = some (ik k) :=
  keyOf_int_mk hkt (WalkArith.wf_i64 (by omega))
theorem IM.run_lookup (h : IM P kt w b N f) (hkt : P.underlying kt = some (.int .i64)) (ht : P.underlying mt = some (.map kt et)) {z : Value} (hz : (zeroValue et).run P w = .ok z w) {k : Nat} (hk : k < 9223372036854775808) :
    (Instr.lookup mt (.map (some b)) (.int .i64 (k : Int)) false).run P w = .ok ((f k).getD z) w := by
  obtain ⟨D, ho, hd⟩ := h
  obtain ⟨v, ps, hrun, hv⟩ := ho.lookup (int_keyed hkt) ht hz (zd := .held z) (zp := []) rfl (key_of hkt hk)
  rw [hrun]
  rw [hd.val] at hv
  cases hf : f k with
  | none => rw [hf] at hv; injection hv with hv; injection hv with hv; injection hv with hv; rw [hv]; rfl
  | some u => rw [hf] at hv; injection hv with hv; injection hv with hv; injection hv with hv; rw [hv]; rfl
theorem IM.run_lookup_ok (h : IM P kt w b N f) (hkt : P.underlying kt = some (.int .i64)) (ht : P.underlying mt = some (.map kt et)) {z : Value} (hz : (zeroValue et).run P w = .ok z w) {k : Nat} (hk : k < 9223372036854775808) :
    (Instr.lookup mt (.map (some b)) (.int .i64 (k : Int)) true).run P w = .ok (.tuple #[(f k).getD z, .bool (f k).isSome]) w := by
  obtain ⟨D, ho, hd⟩ := h
  obtain ⟨v, ps, hrun, hv⟩ := ho.look_ok (int_keyed hkt) ht hz (zd := .held z) (zp := []) rfl (key_of hkt hk)
  rw [hrun, hd.has]
  rw [hd.val] at hv
  cases hf : f k with
  | none => rw [hf] at hv; injection hv with hv; injection hv with hv; injection hv with hv; rw [hv]; rfl
  | some u => rw [hf] at hv; injection hv with hv; injection hv with hv; injection hv with hv; rw [hv]; rfl
theorem IM.run_update (h : IM P kt w b N f) (hkt : P.underlying kt = some (.int .i64)) (ht : P.underlying mt = some (.map kt et)) {k : Nat} (hN : N < 9223372036854775807) (hk : k < N) (v : Value) :
    ∃ w', (Instr.mapUpdate mt (.map (some b)) (.int .i64 (k : Int)) v).run P w = .ok () w' ∧ IM P kt w' b N (fun j => if j = k then some v else f j) ∧ w.mapTurned w' b := by
  obtain ⟨D, ho, hd⟩ := h
  obtain ⟨w', hrun, ho', ht'⟩ := ho.store (int_keyed hkt) ht (by unfold maxLen; omega) (key_of hkt (k := k) (by omega)) (val := v) (d := .held v) (ps := []) rfl
  exact ⟨w', hrun, ⟨_, own_fit ho' (hd.put hk v), hd.put hk v⟩, ht'⟩
theorem IM.run_delete (h : IM P kt w b N f) (hkt : P.underlying kt = some (.int .i64)) (ht : P.underlying mt = some (.map kt et)) {k : Nat} (hk : k < 9223372036854775808) (ty : TypeId) :
    ∃ w', (Builtin.delete_ #[mt, kt] ty #[.map (some b), .int .i64 (k : Int)]).run P w = .ok (.tuple #[]) w' ∧ IM P kt w' b N (fun j => if j = k then none else f j) ∧ w.mapTurned w' b := by
  obtain ⟨D, ho, hd⟩ := h
  obtain ⟨w', hrun, ho', ht'⟩ := ho.drop (int_keyed hkt) ht (key_of hkt hk) ty
  exact ⟨w', hrun, ⟨_, ho', hd.del k⟩, ht'⟩
theorem IM.run_len (h : IM P kt w b N f) (ht : P.underlying mt = some (.map kt et)) (ty : TypeId) : (Builtin.len_ #[mt] ty #[.map (some b)]).run P w = .ok (.int .i64 (((List.range N).filter fun k => (f k).isSome).length)) w := by
  obtain ⟨D, ho, hd⟩ := h
  rw [ho.len ht ty, hd.size_eq]
/-- The map in block b under a range whose iterator is block r; lf: whose turn is still to come. -/
def IR (P : Program) (kt : TypeId) (w : World) (b r N : Nat) (f : Nat → Option Value) (lf : Nat → Bool) (cnt : Nat) : Prop :=
  ∃ D left, w.ranges P kt rawR b r N D left cnt ∧ KD N D f ∧ (∀ k, left (ik k) = lf k) ∧ (∀ l, left l = true → ∃ k, k < N ∧ l = ik k)
variable {r cnt : Nat} {lf : Nat → Bool}
theorem IR.im (h : IR P kt w b r N f lf cnt) : IM P kt w b N f := let ⟨D, _, h, hd, _⟩ := h; ⟨D, h.owns, hd⟩
theorem IR.left_eq (h : IR P kt w b r N f lf cnt) : w.rangeLeft b r = cnt := let ⟨_, _, h, _⟩ := h; h.left_eq
theorem IR.ne (h : IR P kt w b r N f lf cnt) : r ≠ b := let ⟨_, _, h, _⟩ := h; h.ne
theorem IR.rlt (h : IR P kt w b r N f lf cnt) : r < w.heap.size := let ⟨_, _, h, _⟩ := h; h.lt
theorem IR.keep (h : IR P kt w b r N f lf cnt) (hb : w'.heap[b]? = w.heap[b]?) (hr : w'.heap[r]? = w.heap[r]?) : IR P kt w' b r N f lf cnt := by
  obtain ⟨D, left, ⟨es, clock, since, seen, c0, h1, F, hs, hD, h2, rest⟩, hd, hl⟩ := h
  exact ⟨D, left, ⟨es, clock, since, seen, c0, hb.trans h1, F, hs, hD, hr.trans h2, rest⟩, hd, hl⟩
theorem IR.chg {S : Nat → Prop} (h : IR P kt w b r N f lf cnt) (hb : Chg S w w') (h1 : ¬ S b) (h2 : ¬ S r) : IR P kt w' b r N f lf cnt :=
  h.keep (hb.block b h.im.lt h1) (hb.block r h.rlt h2)
theorem IR.alloc (h : IR P kt w b r N f lf cnt) (o : Obj) : IR P kt (w.alloc o) b r N f lf cnt := h.keep (Below.heap_alloc w o b h.im.lt) (Below.heap_alloc w o r h.rlt)
theorem IR.far (h : IR P kt w b r N f lf cnt) {p : Addr} (h1 : b ≠ p.block) (h2 : r ≠ p.block) (u : Value) : IR P kt (w.setCell p u) b r N f lf cnt := h.keep (Below.heap_setCell w p u b h1) (Below.heap_setCell w p u r h2)
theorem IM.run_range (h : IM P kt w b N f) (hkt : P.underlying kt = some (.int .i64)) (ht : P.underlying mt = some (.map kt et)) :
    ∃ w' cnt, (Instr.range mt (.map (some b))).run P w = .ok (.pointer (some ⟨w.heap.size, 0, none⟩)) w' ∧ IR P kt w' b w.heap.size N f (fun k => (f k).isSome) cnt ∧ w.grownBy w' none ∧ w'.heap.size = w.heap.size + 1 := by
  obtain ⟨D, ho, hd⟩ := h
  obtain ⟨w', h1, h2, h3, h4⟩ := ho.range (int_keyed hkt) ht
  exact ⟨w', _, h1, ⟨D, _, h2, hd, fun k => hd.has k, fun l hl => hd.has_key hl⟩, h3, h4⟩
theorem IR.run_next (h : IR P kt w b r N f lf cnt) (hkt : P.underlying kt = some (.int .i64)) (ty : TypeId) :
    (cnt = 0 ∧ (∀ k, lf k = false) ∧ (Instr.next (.pointer (some ⟨r, 0, none⟩)) false ty).run P w = .ok (.tuple #[.bool false]) w) ∨
    ∃ k v w' cnt', k < N ∧ lf k = true ∧ f k = some v ∧ (Instr.next (.pointer (some ⟨r, 0, none⟩)) false ty).run P w = .ok (.tuple #[.bool true, .int .i64 (k : Int), v]) w' ∧
      IR P kt w' b r N f (fun j => lf j && !(j == k)) cnt' ∧ cnt' < cnt ∧ w.grownBy w' (some r) ∧ w'.heap.size = w.heap.size ∧ (Instr.entry (.pointer (some ⟨r, 0, none⟩))).run P w' = .ok (.tuple #[.int .i64 (k : Int), v]) w' := by
  obtain ⟨D, left, hr, hd, hl1, hl2⟩ := h
  rcases hr.next (int_keyed hkt) ty with ⟨h0, hl, hrun⟩ | ⟨key, v, kl, y, w', cnt', hkey, hlk, hv, hat, hrun, hrg, hlt, hgr, hsz, hen⟩
  · exact .inl ⟨h0, fun k => by rw [← hl1]; exact hl _, hrun⟩
  · obtain ⟨k, hk, rfl⟩ := hl2 kl hlk
    obtain ⟨x, rfl, e, _⟩ := keyOf_int_inv hkt hkey
    have e : x = (k : Int) := by unfold ik at e; injection e with _ e; exact e.symm
    subst e
    have hv2 : f k = some v := by
      have h1 := hat .nil
      rw [hd.val] at h1
      injection hv with hv
      subst hv
      cases hf : f k with
      | none => rw [hf] at h1; cases h1
      | some u => rw [hf] at h1; injection h1 with h1; rw [h1]
    refine .inr ⟨k, v, w', cnt', hk, by rw [← hl1]; exact hlk, hv2, hrun, ⟨D, _, hrg, hd, fun j => ?_, fun l h => ?_⟩, hlt, hgr, hsz, hen⟩
    · rw [hl1, ik_same]
    · simp only [Bool.and_eq_true] at h
      exact hl2 l h.1
theorem IR.run_delete (h : IR P kt w b r N f lf cnt) (hkt : P.underlying kt = some (.int .i64)) (ht : P.underlying mt = some (.map kt et)) {k : Nat} (hk : k < 9223372036854775808) (ty : TypeId) :
    ∃ w' cnt', (Builtin.delete_ #[mt, kt] ty #[.map (some b), .int .i64 (k : Int)]).run P w = .ok (.tuple #[]) w' ∧ IR P kt w' b r N (fun j => if j = k then none else f j) (fun j => lf j && !(j == k)) cnt' ∧ cnt' ≤ cnt ∧ w.mapTurned w' b := by
  obtain ⟨D, left, hr, hd, hl1, hl2⟩ := h
  obtain ⟨w', cnt', hrun, hrg, hle, hmt⟩ := hr.drop (int_keyed hkt) ht (key_of hkt hk) ty
  refine ⟨w', cnt', hrun, ⟨_, _, hrg, hd.del k, fun j => ?_, fun l h => ?_⟩, hle, hmt⟩
  · show (left (ik j) && !(ik j).sameKey (ik k)) = _
    rw [hl1, ik_same]
  · simp only [Bool.and_eq_true] at h
    exact hl2 l h.1
/- At the operations. -/
variable {ops : Array Oper} {rest : List Oper} {o : Oper} {a : Act} {Q : Exit → Act → World → Prop}
theorem wpList_im_lookup (hg : o.guard = none) {m x : Operand} (hop : o.op = Op.lookup mt m x false) (hkt : P.underlying kt = some (.int .i64)) (ht : P.underlying mt = some (.map kt et)) {z : Value} (hz : (zeroValue et).run P w = .ok z w)
    (hown : IM P kt w b N f) (hm : a.eval m = .map (some b)) {k : Nat} (hx : a.eval x = .int .i64 (k : Int)) (hk : k < 9223372036854775808) {v : Value} (hv : Hid ((f k).getD z = v)) (hK : wpList P ops Q rest (a.put o.dst v) w) : wpList P ops Q (o :: rest) a w := by
  refine wpList_plain hg fun K' hK' => ?_
  have hrun := hown.run_lookup hkt ht hz hk
  rw [hv.out] at hrun
  unfold Oper.wp
  simp [execOp, hop, hm, hx, hrun, Result.andThen]
  exact hK' _ _ hK
theorem wpList_im_lookup_ok (hg : o.guard = none) {m x : Operand} (hop : o.op = Op.lookup mt m x true) (hkt : P.underlying kt = some (.int .i64)) (ht : P.underlying mt = some (.map kt et)) {z : Value} (hz : (zeroValue et).run P w = .ok z w)
    (hown : IM P kt w b N f) (hm : a.eval m = .map (some b)) {k : Nat} (hx : a.eval x = .int .i64 (k : Int)) (hk : k < 9223372036854775808) {v : Value} {ok : Bool} (hv : Hid ((f k).getD z = v ∧ (f k).isSome = ok)) (hK : wpList P ops Q rest (a.put o.dst (.tuple #[v, .bool ok])) w) : wpList P ops Q (o :: rest) a w := by
  refine wpList_plain hg fun K' hK' => ?_
  have hrun := hown.run_lookup_ok hkt ht hz hk
  rw [hv.out.1, hv.out.2] at hrun
  unfold Oper.wp
  simp [execOp, hop, hm, hx, hrun, Result.andThen]
  exact hK' _ _ hK
theorem wpList_im_update (hg : o.guard = none) {m x v : Operand} (hop : o.op = Op.mapUpdate mt m x v) (hkt : P.underlying kt = some (.int .i64)) (ht : P.underlying mt = some (.map kt et))
    (hown : IM P kt w b N f) (hm : a.eval m = .map (some b)) {k : Nat} (hx : a.eval x = .int .i64 (k : Int)) (hN : N < 9223372036854775807) (hk : k < N) {u : Value} (hv : a.eval v = u)
    (hK : ∀ w', IM P kt w' b N (fun j => if j = k then some u else f j) → w.mapTurned w' b → wpList P ops Q rest (a.put o.dst undef) w') : wpList P ops Q (o :: rest) a w := by
  refine wpList_plain hg fun K' hK' => ?_
  obtain ⟨w', hrun, h1, h2⟩ := hown.run_update hkt ht hN hk u
  unfold Oper.wp
  simp [execOp, hop, hm, hx, hv, hrun, Result.andThen]
  exact hK' _ _ (hK w' h1 h2)
theorem wpList_im_delete (hg : o.guard = none) {m x : Operand} (hop : o.op = Op.call { callee := Callee.builtin Builtin.delete, args := #[m, x], argTypes := #[mt, kt] }) (hkt : P.underlying kt = some (.int .i64)) (ht : P.underlying mt = some (.map kt et))
    (hown : IM P kt w b N f) (hm : a.eval m = .map (some b)) {k : Nat} (hx : a.eval x = .int .i64 (k : Int)) (hk : k < 9223372036854775808)
    (hK : ∀ w', IM P kt w' b N (fun j => if j = k then none else f j) → w.mapTurned w' b → wpList P ops Q rest (a.put o.dst (.tuple #[])) w') : wpList P ops Q (o :: rest) a w := by
  refine wpList_plain hg fun K' hK' => ?_
  obtain ⟨w', hrun, h1, h2⟩ := hown.run_delete hkt ht hk o.type
  unfold Oper.wp
  simp [execOp, hop, resolve, invoke, builtin, hm, hx, hrun, Result.andThen]
  exact hK' _ _ (hK w' h1 h2)
theorem wpList_ir_delete (hg : o.guard = none) {m x : Operand} (hop : o.op = Op.call { callee := Callee.builtin Builtin.delete, args := #[m, x], argTypes := #[mt, kt] }) (hkt : P.underlying kt = some (.int .i64)) (ht : P.underlying mt = some (.map kt et))
    (hown : IR P kt w b r N f lf cnt) (hm : a.eval m = .map (some b)) {k : Nat} (hx : a.eval x = .int .i64 (k : Int)) (hk : k < 9223372036854775808)
    (hK : ∀ w' cnt', IR P kt w' b r N (fun j => if j = k then none else f j) (fun j => lf j && !(j == k)) cnt' → cnt' ≤ cnt → w.mapTurned w' b → wpList P ops Q rest (a.put o.dst (.tuple #[])) w') : wpList P ops Q (o :: rest) a w := by
  refine wpList_plain hg fun K' hK' => ?_
  obtain ⟨w', cnt', hrun, h1, h2, h3⟩ := hown.run_delete hkt ht hk o.type
  unfold Oper.wp
  simp [execOp, hop, resolve, invoke, builtin, hm, hx, hrun, Result.andThen]
  exact hK' _ _ (hK w' cnt' h1 h2 h3)
theorem wpList_im_range (hg : o.guard = none) {m : Operand} (hop : o.op = Op.range mt m) (hkt : P.underlying kt = some (.int .i64)) (ht : P.underlying mt = some (.map kt et)) (hown : IM P kt w b N f) (hm : a.eval m = .map (some b))
    (hK : ∀ w' cnt, IR P kt w' b w.heap.size N f (fun k => (f k).isSome) cnt → w.grownBy w' none → w'.heap.size = w.heap.size + 1 → wpList P ops Q rest (a.put o.dst (.pointer (some ⟨w.heap.size, 0, none⟩))) w') : wpList P ops Q (o :: rest) a w := by
  refine wpList_plain hg fun K' hK' => ?_
  obtain ⟨w', cnt, hrun, r1, r2, r3⟩ := hown.run_range hkt ht
  unfold Oper.wp
  simp [execOp, hop, hm, hrun, Result.andThen]
  exact hK' _ _ (hK w' cnt r1 r2 r3)
theorem wpList_ir_next (hg : o.guard = none) {it : Operand} (hop : o.op = Op.next it false) (hkt : P.underlying kt = some (.int .i64)) (h : IR P kt w b r N f lf cnt) (hit : a.eval it = .pointer (some ⟨r, 0, none⟩))
    (hDone : cnt = 0 → (∀ k, lf k = false) → wpList P ops Q rest (a.put o.dst (.tuple #[.bool false])) w)
    (hMore : ∀ k v w' cnt', k < N → lf k = true → f k = some v → IR P kt w' b r N f (fun j => lf j && !(j == k)) cnt' → cnt' < cnt → w.grownBy w' (some r) → w'.heap.size = w.heap.size →
      (Instr.entry (.pointer (some ⟨r, 0, none⟩))).run P w' = .ok (.tuple #[.int .i64 (k : Int), v]) w' → wpList P ops Q rest (a.put o.dst (.tuple #[.bool true, .int .i64 (k : Int), v])) w') : wpList P ops Q (o :: rest) a w := by
  refine wpList_plain hg fun K' hK' => ?_
  unfold Oper.wp
  rcases h.run_next hkt o.type with ⟨h0, hl, hrun⟩ | ⟨k, v, w', cnt', hk, hl, hv, hrun, hr, hlt, hgr, hsz, hen⟩
  · simp [execOp, hop, hit, hrun, Result.andThen]
    exact hK' _ _ (hDone h0 hl)
  · simp [execOp, hop, hit, hrun, Result.andThen]
    exact hK' _ _ (hMore k v w' cnt' hk hl hv hr hlt hgr hsz hen)
end
theorem Chg.turned {S : Nat → Prop} {a b : World} {m : Nat} (h : a.mapTurned b m) (hs : S m) : Chg S a b :=
  (Chg.refl S a).grown h.grown (fun k hk _ => by cases hk; exact hs)
end Go.Proofs.Ytefbmbfhhhjgkaa
