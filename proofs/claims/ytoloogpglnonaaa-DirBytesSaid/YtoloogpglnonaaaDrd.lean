/- Bytes as slots. -/
import Derived.Test.YtoloogpglnonaaaDch
import Derived.Maps.OwnIn
import Derived.Maps.AppendAt
namespace Go.Proofs.Ytoloogpglnonaaa
open Go.RowKit Go.Shelf
attribute [local go_sem] Oper.semAt_some
def chk (bs : List UInt8) (k : Nat) : List UInt8 := (bs.drop (64 * k)).take 64
def okK (bs : List UInt8) (k : Nat) : Prop := ∀ j, j < k → (decD (chk bs j)).2 = 0
def decs (bs : List UInt8) (k : Nat) : List Ent := (List.range k).map fun j => (decD (chk bs j)).1
def readD (bs : List UInt8) : List Ent × Int :=
  if bs.length % 512 ≠ 0 then ([], 3) else match (List.range (bs.length / 64)).find? (fun k => (decD (chk bs k)).2 != 0) with
    | some k => ([], (decD (chk bs k)).2)
    | none => (decs bs (bs.length / 64), 0)
theorem decs_succ (bs : List UInt8) (k : Nat) : decs bs (k + 1) = decs bs k ++ [(decD (chk bs k)).1] := by unfold decs; rw [List.range_succ, List.map_append]; rfl
theorem decs_len (bs : List UInt8) (k : Nat) : (decs bs k).length = k := by simp [decs]
theorem readD_ok {bs : List UInt8} (h : bs.length % 512 = 0) (ho : okK bs (bs.length / 64)) : readD bs = (decs bs (bs.length / 64), 0) := by
  unfold readD
  rw [if_neg (by omega), List.find?_eq_none.2 (fun k hk => by simp [ho k (List.mem_range.1 hk)])]
theorem find_range {p : Nat → Bool} : ∀ {m k : Nat}, k < m → p k = true → (∀ j, j < k → p j = false) → (List.range m).find? p = some k
  | m + 1, k, hk, hp, hj => by
    rw [List.range_succ, List.find?_append]
    rcases Nat.lt_or_ge k m with h | h
    · rw [find_range h hp hj]
      rfl
    · have : k = m := by omega
      subst this
      rw [List.find?_eq_none.2 (fun j hm => by simp [hj j (List.mem_range.1 hm)])]
      simp [hp]
theorem readD_bad {bs : List UInt8} (h : bs.length % 512 = 0) {k : Nat} (hk : k < bs.length / 64) (ho : okK bs k) (hb : (decD (chk bs k)).2 ≠ 0) : readD bs = ([], (decD (chk bs k)).2) := by
  unfold readD
  rw [if_neg (by omega), find_range hk (by simpa using hb) (fun j hj => by simp [ho j hj])]
theorem rd_mid {w : World} {A : Option Addr} {n c k m : Nat} {bs : List UInt8} (h : Rd w (.slice A n c) (bvs bs)) (hk : k + m ≤ bs.length) : Rd w (.slice (A.map (·.add k)) m m) (bvs ((bs.drop k).take m)) := by
  obtain ⟨A', c', e, hl, hr⟩ := h
  injection e with e1 e2 e3
  subst e1 e3
  rw [bvs_length] at hl
  refine ⟨_, _, by rw [bvs_length, List.length_take, List.length_drop, Nat.min_eq_left (by omega)], by rw [bvs_length, List.length_take, List.length_drop]; omega, fun hne => ?_⟩
  have hne2 : bvs bs ≠ [] := by
    intro e
    apply hne
    have : bs = [] := by cases bs with | nil => rfl | cons a r => cases e
    subst this
    rw [List.drop_nil, List.take_nil]
    rfl
  obtain ⟨ad', e, hc⟩ := hr hne2
  subst e
  refine ⟨_, rfl, fun j u hu => ?_⟩
  rw [addr_add_add]
  refine hc (k + j) u ?_
  rw [bvs, List.getElem?_map, List.getElem?_take] at hu
  split at hu
  · rw [bvs, List.getElem?_map]
    rw [List.getElem?_drop] at hu
    exact hu
  · cases hu
def ReadOut (w : World) (o : List Ent × Int) (e : Ending) (w' : World) : Prop := ∃ v, e = .returned (.tuple #[v, .int .i64 o.2]) ∧ OwnE w' v o.1 ∧ Below w.heap.size w w'
theorem keeps_below {W W' : World} (h : Below W.heap.size W W') (B : Nat) : KeepsFrom B W W' := ⟨h.size, fun k _ _ hk _ => (h.block k (Array.getElem?_eq_some_iff.1 hk).1).trans hk⟩
theorem at_of {F : Fence} {n : Nat} {P : Program} {c : Code} {Q : Exit → Act → World → Prop} {a : Act} {w : World} (h : ∀ a0 w0, a = a0 → w = w0 → c.wpIn F n P Q a0 w0) : c.wpIn F n P Q a w := h a w rfl rfl
theorem blk_kept {W W' : World} {row : Option Nat} {g : Nat} {t : TypeId} {cs : Array Value} (h : Blk W g t cs) (hg : W.grownBy W' row) (hr : ∀ r, row = some r → ∃ o : Obj, W.heap[r]? = some o ∧ o.isCells = false) : Blk W' g t cs :=
  h.grown hg (fun e => by
    obtain ⟨o, ho, hc⟩ := hr g e.symm
    rw [h] at ho
    cases ho
    cases hc)
theorem own_kept' {W W' : World} {row : Option Nat} {base e size n : Nat} {v : Value} {xs : List Value} (h : W.ownsRow base e size v n xs) (hg : W.grownBy W' row) (hr : ∀ r, row = some r → ∃ o : Obj, W.heap[r]? = some o ∧ o.isCells = false) : W'.ownsRow base e size v n xs := by
  refine World.ownsRow.kept h hg ?_
  rcases h.2 with ⟨rfl, _⟩ | ⟨g, cap, cur, rfl, _, hb, _⟩
  · exact .inl rfl
  · refine .inr (fun e => ?_)
    obtain ⟨o, ho, hc⟩ := hr g (by rw [← e]; rfl)
    rw [hb] at ho
    cases ho
    cases hc
theorem own_below {w w' : World} {base e size n : Nat} {v : Value} {xs : List Value} (h : w.ownsRow base e size v n xs) (hb : Below w.heap.size w w') : w'.ownsRow base e size v n xs :=
  World.ownsRow.kept (row := none) h ⟨hb.os, hb.tape, hb.output, hb.size, fun k hk _ => hb.block k hk⟩ (by cases v.ownBlock <;> simp)
theorem own_base {w : World} {b0 base e size n : Nat} {v : Value} {xs : List Value} (h : w.ownsRow base e size v n xs) (hb : b0 ≤ base) : w.ownsRow b0 e size v n xs :=
  ⟨h.1, by
    rcases h.2 with h | ⟨g, cap, cur, e1, e2, rest⟩
    · exact .inl h
    · exact .inr ⟨g, cap, cur, e1, Nat.le_trans hb e2, rest⟩⟩
theorem cell_news (w : World) (t : TypeId) (us : List Value) : ∀ (j : Nat) (u : Value), us[j]? = some u → (w.alloc (.cells us.toArray t)).cell? ((⟨w.heap.size, 0, none⟩ : Addr).add j) = some u := fun j u hu => by
  rw [addr_add_at, (Blk.new w t us.toArray).cell]
  simpa using hu
theorem stop_appIn {F : Fence} {n : Nat} {P : Program} {w : World} {ops : Array Oper} {rest : List Oper} {o : Oper} {a : Act} {Q : Exit → Act → World → Prop} {s x : Operand} {t u : TypeId}
    (_ : o.op = .call { callee := .builtin .append, args := #[s, x], argTypes := #[t, u] }) (h : Stop (wpListIn F n P ops Q (o :: rest) a w)) : wpListIn F n P ops Q (o :: rest) a w := h
/-- The entries that have come. -/
def cameE {m : Nat} (bs : List UInt8) (pre : List {k : Nat // k < m}) : List Ent := pre.map fun x => (decD (chk bs x.1)).1
def cameOk {m : Nat} (bs : List UInt8) (pre : List {k : Nat // k < m}) : Prop := ∀ x ∈ pre, (decD (chk bs x.1)).2 = 0
structure RdI (w : World) (bs : List UInt8) {m : Nat} (pre : List {k : Nat // k < m}) (W : World) : Prop where
  ok : cameOk bs pre
  row : ∃ v, Blk W (w.heap.size + 2) 25 #[v] ∧ W.ownsRow w.heap.size 43 2 v pre.length (cellsE (cameE bs pre))
  r2 : Blk W w.heap.size 25 #[.slice none 0 0]
  r3 : Blk W (w.heap.size + 1) 26 #[.int .i64 0]
  fs : ∀ k, k = w.heap.size + 3 ∨ k = w.heap.size + 4 → ∃ cs t, t ≠ 43 ∧ Blk W k t cs
  below : Below w.heap.size w W
structure RdX (w : World) (bs : List UInt8) {m : Nat} (c : Code) (pre : List {k : Nat // k < m}) (W : World) : Prop where
  ret : c = .ret
  at_ : ∃ ini x, pre = ini ++ [x] ∧ cameOk bs ini ∧ (decD (chk bs x.1)).2 ≠ 0 ∧ Blk W (w.heap.size + 1) 26 #[.int .i64 (decD (chk bs x.1)).2]
  r2 : Blk W w.heap.size 25 #[.slice none 0 0]
  below : Below w.heap.size w W
theorem RdI.own {w : World} {bs : List UInt8} {m B : Nat} (hB : w.heap.size ≤ B) : OwnFrom B (fun (pre : List {k : Nat // k < m}) W => RdI w bs pre W) := fun pre W W' row h hg hr => by
  have hr' : ∀ r, row = some r → ∃ o : Obj, W.heap[r]? = some o ∧ o.isCells = false := fun r e => (hr r e).2
  obtain ⟨v, h1, h2⟩ := h.row
  exact ⟨h.ok, ⟨v, blk_kept h1 hg hr', own_kept' h2 hg hr'⟩, blk_kept h.r2 hg hr', blk_kept h.r3 hg hr', fun k hk => by
    obtain ⟨cs, t, ht, hb⟩ := h.fs k hk
    exact ⟨cs, t, ht, blk_kept hb hg hr'⟩, h.below.grown hg h.below.size (fun k e => Nat.le_trans hB (hr k e).1)⟩
theorem RdX.own {w : World} {bs : List UInt8} {m B : Nat} (hB : w.heap.size ≤ B) (c : Code) : OwnFrom B (fun (pre : List {k : Nat // k < m}) W => RdX w bs c pre W) := fun pre W W' row h hg hr => by
  have hr' : ∀ r, row = some r → ∃ o : Obj, W.heap[r]? = some o ∧ o.isCells = false := fun r e => (hr r e).2
  obtain ⟨ini, x, h1, h2, h3, h4⟩ := h.at_
  exact ⟨h.ret, ⟨ini, x, h1, h2, h3, blk_kept h4 hg hr'⟩, blk_kept h.r2 hg hr', h.below.grown hg h.below.size (fun k e => Nat.le_trans hB (hr k e).1)⟩
set_option maxRecDepth 100000 in
set_option maxHeartbeats 8000000 in
theorem ReadE_calls (w : World) (x : Value) (bs : List UInt8) (hx : Rd w x (bvs bs)) (hl : bs.length ≤ 100000) : Calls Try.prog 21 #[x] w (ReadOut w (readD bs)) := by
  have hx0 := hx
  obtain ⟨A, c, rfl⟩ := hx.shape8
  by_cases h5 : bs.length % 512 = 0
  · have hm : ((bs.length : Int) % 512 != 0) = false := by simp; omega
    refine (callsIn_wide (n := 8)).1 ?_
    refine callsIn_of_wp_marks Try.func21 rfl trivial ?_ rfl
    simp only [Try.ntmps21, List.size_toArray, List.length_cons, List.length_nil, Nat.reduceAdd, Nat.reduceSub, Array.replicate_succ, Array.replicate_zero, List.push_toArray, List.append_toArray, List.nil_append, List.cons_append]
    gi_wp2_with (refine ⟨trivial, ?_⟩; gi_at_call 50; refine (callsIn_wide.2 (Chunk_calls _ _ _ _)).mono ?_; rintro e w' ⟨rfl, rfl⟩)
    obtain ⟨m, hm64⟩ : ∃ m, Hid (bs.length = 64 * m ∧ m = bs.length / 64) := ⟨bs.length / 64, by omega, rfl⟩
    refine at_of ?_
    intro a0 W0 hact hW0
    have hsz : W0.heap.size = w.heap.size + 5 := by rw [← hW0]; simp
    have b2 : Blk W0 w.heap.size 25 #[.slice none 0 0] := by
      rw [← hW0]
      exact ((((Blk.new w _ _).alloc _).alloc _).alloc _).alloc _
    have b3 : Blk W0 (w.heap.size + 1) 26 #[.int .i64 0] := by
      rw [← hW0]
      have := Blk.new (w.alloc (.cells #[.slice none 0 0] 25)) 26 #[.int .i64 0]
      rw [World.size_alloc] at this
      exact ((this.alloc _).alloc _).alloc _
    have bo : Blk W0 (w.heap.size + 2) 25 #[.slice none 0 0] := by
      rw [← hW0]
      have := Blk.new ((w.alloc (.cells #[.slice none 0 0] 25)).alloc (.cells #[.int .i64 0] 26)) 25 #[.slice none 0 0]
      rw [World.size_alloc, World.size_alloc] at this
      exact (this.alloc _).alloc _
    have bs0 : Blk W0 (w.heap.size + 3) 30 #[.slice A bs.length c] := by
      rw [← hW0]
      have := Blk.new (((w.alloc (.cells #[.slice none 0 0] 25)).alloc (.cells #[.int .i64 0] 26)).alloc (.cells #[.slice none 0 0] 25)) 30 #[.slice A bs.length c]
      rw [World.size_alloc, World.size_alloc, World.size_alloc] at this
      exact this.alloc _
    have bn : Blk W0 (w.heap.size + 4) 3 #[.int .i64 64] := by
      rw [← hW0]
      have := Blk.new ((((w.alloc (.cells #[.slice none 0 0] 25)).alloc (.cells #[.int .i64 0] 26)).alloc (.cells #[.slice none 0 0] 25)).alloc (.cells #[.slice A bs.length c] 30)) 3 #[.int .i64 64]
      rw [World.size_alloc, World.size_alloc, World.size_alloc, World.size_alloc] at this
      exact this
    have hB0 : Below w.heap.size w W0 := by
      rw [← hW0]
      exact (((((Below.refl _ w).alloc (Nat.le_refl _) _).alloc (by simp) _).alloc (by simp; omega) _).alloc (by simp; omega) _).alloc (by simp; omega) _
    have hcap : bs.length ≤ c := by
      obtain ⟨A', c', e, h, _⟩ := hx
      injection e with _ _ e3
      rw [e3, ← bvs_length bs]; exact h
    rw [hm64.out.1] at bs0
    subst hact
    refine wpIn_rangeFunc_ownG rfl (by omega) (gf := 61) (lb := #[.pointer (some ⟨w.heap.size + 3, 0, none⟩), .pointer (some ⟨w.heap.size + 4, 0, none⟩)]) rfl trivial (enters_of Try.func61 (by kernel_rfl) rfl)
      (chunk_stops 7 (w.heap.size + 3) (w.heap.size + 4) w.heap.size (by omega) A c m (by have := hm64.out.1; omega) (by have := hm64.out.1; omega) W0 bs0 bn) Kc.trans (Kc.book (by rw [hsz]; omega)) (Below.refl _ _) (fun _ => rfl)
      (fun pre W => RdI w bs pre W) (fun cc pre W => RdX w bs cc pre W) (RdI.own (by rw [hsz]; omega)) (fun cc => RdX.own (by rw [hsz]; omega) cc)
      ⟨(by intro x hx; simp at hx), ⟨_, bo, World.ownsRow_nil _ _ _ _⟩, b2, b3, (by rintro k (rfl | rfl); exact ⟨_, _, by decide, bs0⟩; exact ⟨_, _, by decide, bn⟩), hB0⟩
      (fun x => { tmps := #[.slice A bs.length c, undef, .pointer (some ⟨w.heap.size, 0, none⟩), .pointer (some ⟨w.heap.size + 1, 0, none⟩), .pointer (some ⟨w.heap.size + 2, 0, none⟩), .slice (A.map (·.add (64 * x.1))) 64 64, undef, undef, .slice A bs.length c, .int .i64 bs.length, .int .i64 ((bs.length : Int) % 512), .bool false, .slice A bs.length c, .func (.func 61) #[] #[.pointer (some ⟨w.heap.size + 3, 0, none⟩), .pointer (some ⟨w.heap.size + 4, 0, none⟩)], .slice (A.map (·.add (64 * x.1))) 64 64, undef, undef, undef, undef, undef, undef, undef, undef, undef, undef, undef, undef, undef], defers := [] }) ?assign ?body ?done ?stop
    case assign =>
      intro l x W K hK
      gi_wp2
      exact hK
    case body =>
      rintro l pre x W hI hlen
      have hB := hI.below
      have hxd : Rd W (.slice (A.map (·.add (64 * x.1))) 64 64) (bvs (chk bs x.1)) := (rd_mid (k := 64 * x.1) (m := 64) hx0 (by have := x.2; have := hm64.out.1; omega)).below hB
      have hD := DecodeE_calls W _ (chk bs x.1) hxd (by unfold chk; rw [List.length_take]; omega)
      obtain ⟨o, ho⟩ : ∃ o, Hid (o = decD (chk bs x.1)) := ⟨_, rfl⟩
      rw [← ho.out] at hD
      obtain ⟨⟨nm, ino⟩, er⟩ := o
      unfold DecE Ent.cells at hD
      simp only at hD
      obtain ⟨v, hv, hrow⟩ := hI.row
      have hIh := Lib.hid hI
      have hv := Lib.hid hv
      have hrow := Lib.hid hrow
      have hD := Lib.hid hD
      clear hI hxd
      obtain ⟨i0, hi, hz0, hz1, hz2⟩ := info_parts Try.info_ent
      by_cases he : er = 0
      · subst he
        gi_wp2_with first
          | (refine ⟨trivial, ?_⟩; gi_at_call 19; refine (CallsIn.inRound l (callsIn_wide.2 hD.out)).mono ?_; rintro e w1 ⟨rfl, hB1⟩; have hv1 := ((hv.out.chg (Chg.of_below (S := fun _ => False) hB1) id).alloc (.cells #[.string ⟨nm.toArray⟩, .int .i64 ino] 43)); have d4 : (w1.alloc (.cells #[.string ⟨nm.toArray⟩, .int .i64 ino] 43)).cell? ⟨w.heap.size + 2, 0, none⟩ = some v := hv1.cell 0; have hrow1 := Lib.hid (World.ownsRow.alloc (own_below hrow.out hB1) (.cells #[.string ⟨nm.toArray⟩, .int .i64 ino] 43)); have be := Blk.new w1 43 #[.string ⟨nm.toArray⟩, .int .i64 ino]; have e0 : (w1.alloc (.cells #[.string ⟨nm.toArray⟩, .int .i64 ino] 43)).cell? ⟨w1.heap.size, 0, none⟩ = some (.string ⟨nm.toArray⟩) := be.cell 0; have e1 : (w1.alloc (.cells #[.string ⟨nm.toArray⟩, .int .i64 ino] 43)).cell? ⟨w1.heap.size, 1, none⟩ = some (.int .i64 ino) := be.cell 1)
          | (gi_at_builtin; refine stop_appIn rfl ?_)
        have hnews := cell_news (w1.alloc (.cells #[.string ⟨nm.toArray⟩, .int .i64 ino] 43)) 43 [.string ⟨nm.toArray⟩, .int .i64 ino]
        rw [World.size_alloc] at hnews
        refine Stop.mk (wpListIn_append_own _ rfl _ _ 25 rfl w.heap.size 43 i0 (.agg #[.string ⟨#[]⟩, .int .i64 0]) 2 24 Try.underlying25 hi hz0 hz1 hz2 rfl (by decide) v pre.length (cellsE (cameE bs pre)) rfl (World.ownsRow.alloc hrow1.out _) ⟨w1.heap.size + 1, 0, none⟩ 1 1 [.string ⟨nm.toArray⟩, .int .i64 ino] rfl rfl hnews ?_ ?_ ?_ ?_ ?_)
        · simp [Value.oneCell']
        · exact Nat.le_trans (show _ ≤ 100000 by have := hm64.out.1; omega) (by decide)
        · have := hm64.out.1; omega
        · have := hB.size; have := hB1.size; simp; omega
        intro v' w2 hown' hgrow _
        obtain ⟨g', cap', rfl⟩ := ownsRow_succ hown'
        obtain ⟨hv2, hv3, hr2, hk2, hb2⟩ := Boxed.appended (W := w1.alloc (.cells #[.string ⟨nm.toArray⟩, .int .i64 ino] 43)) (B := w.heap.size + 2) hv1 (by decide) hrow1.out (by have := hB.size; have := hB1.size; simp; omega) (by omega) hown' hgrow
        have hc1 := hv2.cell
        have hf1 := hv2.frozen
        have hBb : Below w.heap.size W (w2.setCell ⟨w.heap.size + 2, 0, none⟩ (.slice (some ⟨g', 0, none⟩) (pre.length + 1) cap')) := ((hB1.mono hB.size).alloc (by have := hB.size; have := hB1.size; omega) _).trans hb2
        have hKK : KeepsFrom W0.heap.size W (w2.setCell ⟨w.heap.size + 2, 0, none⟩ (.slice (some ⟨g', 0, none⟩) (pre.length + 1) cap')) := ((keeps_below hB1 _).trans ((KeepsOthers.alloc _ _).from _)).trans (hk2.from _)
        have hfar : ∀ k cs t fr, k ≠ w.heap.size + 2 → t ≠ 43 → W.heap[k]? = some (.cells cs t fr) → (w2.setCell ⟨w.heap.size + 2, 0, none⟩ (.slice (some ⟨g', 0, none⟩) (pre.length + 1) cap')).heap[k]? = some (.cells cs t fr) := by
          intro k cs t fr hk ht h
          have hlt : k < W.heap.size := (Array.getElem?_eq_some_iff.1 h).1
          have h1 := (hB1.block k hlt).trans h
          have hlt1 : k < w1.heap.size := (Array.getElem?_eq_some_iff.1 h1).1
          have h2 : (w1.alloc (.cells #[.string ⟨nm.toArray⟩, .int .i64 ino] 43)).heap[k]? = some (.cells cs t fr) := (Below.heap_alloc w1 _ k hlt1).trans h1
          have h3 := (Below.heap_alloc (w1.alloc (.cells #[.string ⟨nm.toArray⟩, .int .i64 ino] 43)) (.cells #[.string ⟨nm.toArray⟩, .int .i64 ino] 43) k (by simp; omega)).trans h2
          have h4 := (hgrow.block k (by simp; omega) (fun e => by
            rcases hrow1.out.2 with ⟨rfl, _⟩ | ⟨g, cp, cur, rfl, _, hb, _⟩
            · cases e
            · cases e
              rw [h2] at hb
              cases hb
              exact ht rfl)).trans h3
          exact (Below.heap_setCell w2 ⟨w.heap.size + 2, 0, none⟩ _ k (by exact hk)).trans h4
        gi_wp2
        refine ⟨hKK, ⟨hBb, fun k hk cs t fr h => ?_⟩, ?_, ⟨_, hv3, ?_⟩, ?_, ?_, fun k hk => ?_, hIh.out.below.trans hBb⟩
        · obtain ⟨cs', t', ht', hb'⟩ := hIh.out.fs k hk
          unfold Blk at hb'
          rw [h] at hb'
          cases hb'
          exact hfar k cs t _ (by rcases hk with e | e <;> omega) ht' h
        · intro y hy
          rcases List.mem_append.1 hy with hy | hy
          · exact hIh.out.ok y hy
          · rw [List.mem_singleton.1 hy, ← ho.out]
        · have e1 : cellsE (cameE bs (pre ++ [x])) = cellsE (cameE bs pre) ++ [.string ⟨nm.toArray⟩, .int .i64 ino] := by
            unfold cameE
            rw [List.map_append, cellsE_app]
            simp only [List.map_cons, List.map_nil, ← ho.out]
            rfl
          rw [e1, List.length_append]
          exact hr2
        · exact hfar _ _ _ _ (by omega) (by decide) hIh.out.r2
        · exact hfar _ _ _ _ (by omega) (by decide) hIh.out.r3
        · obtain ⟨cs', t', ht', hb'⟩ := hIh.out.fs k hk
          exact ⟨cs', t', ht', hfar k cs' t' _ (by rcases hk with e | e <;> omega) ht' hb'⟩
      · have heb : (er != 0) = true := by simpa using he
        gi_wp2_with (refine ⟨trivial, ?_⟩; gi_at_call 19; refine (CallsIn.inRound l (callsIn_wide.2 hD.out)).mono ?_; rintro e w1 ⟨rfl, hB1⟩; have c2 := ((hIh.out.r2.chg (Chg.of_below (S := fun _ => False) hB1) id).alloc (.cells #[.string ⟨nm.toArray⟩, .int .i64 ino] 43)); have c3 := ((hIh.out.r3.chg (Chg.of_below (S := fun _ => False) hB1) id).alloc (.cells #[.string ⟨nm.toArray⟩, .int .i64 ino] 43)); have d2 : (w1.alloc (.cells #[.string ⟨nm.toArray⟩, .int .i64 ino] 43)).cell? ⟨w.heap.size, 0, none⟩ = some (.slice none 0 0) := c2.cell 0; have d3 : (w1.alloc (.cells #[.string ⟨nm.toArray⟩, .int .i64 ino] 43)).cell? ⟨w.heap.size + 1, 0, none⟩ = some (.int .i64 0) := c3.cell 0; have f2 := c2.frozen 0; have f3 := c3.frozen 0)
        have hsz1 := hB.size
        have hsz2 := hB1.size
        have hs2 := c2.set_ 0 (.slice none 0 0)
        have hs3 := (c3.far (p := ⟨w.heap.size, 0, none⟩) (by show w.heap.size + 1 ≠ w.heap.size; omega) (.slice none 0 0)).set_ 0 (.int .i64 er)
        have hs2' := hs2.far (p := ⟨w.heap.size + 1, 0, none⟩) (by show w.heap.size ≠ w.heap.size + 1; omega) (.int .i64 er)
        refine ⟨?_, rfl, ⟨pre, x, rfl, hIh.out.ok, by rw [← ho.out]; exact he, by rw [← ho.out]; exact hs3⟩, hs2', ?_⟩
        · exact ((keeps_below hB1 _).trans ((KeepsOthers.alloc _ _).from _)).trans (((KeepsOthers.setCell _ _ _).trans (KeepsOthers.setCell _ _ _)).from _)
        · exact ((hB.trans (hB1.mono hB.size)).alloc (by omega) _).setCell (p := ⟨w.heap.size, 0, none⟩) (Nat.le_refl _) _ |>.setCell (p := ⟨w.heap.size + 1, 0, none⟩) (by show _ ≤ w.heap.size + 1; omega) _
    case done =>
      rintro D ys W hD hys hI hK
      obtain ⟨v, hv, hrow⟩ := hI.row
      have d4 : W.cell? ⟨w.heap.size + 2, 0, none⟩ = some v := hv.cell 0
      have d2 : W.cell? ⟨w.heap.size, 0, none⟩ = some (.slice none 0 0) := hI.r2.cell 0
      have d3 : W.cell? ⟨w.heap.size + 1, 0, none⟩ = some (.int .i64 0) := hI.r3.cell 0
      have f2 := hI.r2.frozen 0
      have f3 := hI.r3.frozen 0
      have hs2 := hI.r2.set_ 0 v
      have hs3 := (hI.r3.far (p := ⟨w.heap.size, 0, none⟩) (by show w.heap.size + 1 ≠ w.heap.size; omega) v).set_ 0 (.int .i64 0)
      have hs2' := hs2.far (p := ⟨w.heap.size + 1, 0, none⟩) (by show w.heap.size ≠ w.heap.size + 1; omega) (.int .i64 0)
      obtain ⟨Av, cv, rfl⟩ := own_shape hrow
      gi_wp2
      have hK' := ((KeepsOthers.setCell W ⟨w.heap.size, 0, none⟩ (.slice Av ys.length cv)).trans (KeepsOthers.setCell _ ⟨w.heap.size + 1, 0, none⟩ (.int .i64 0))).same D _ hK rfl
      refine ⟨by simp, .inl ⟨_, _, rfl, run_takeDeferred hK', ?_⟩⟩
      have hm2 : ys.length = m := by have := congrArg List.length hys; rw [List.length_map, List.length_range] at this; exact this
      have hce : cameE bs ys = decs bs m := by
        unfold cameE decs
        rw [← hys, List.map_map]
        rfl
      have hcr : readD bs = (decs bs m, 0) := by
        rw [hm64.out.2]
        refine readD_ok h5 (fun j hj => ?_)
        rw [← hm64.out.2] at hj
        have hj2 : j ∈ ys.map Subtype.val := by rw [hys]; exact List.mem_range.2 hj
        obtain ⟨y, hy, rfl⟩ := List.mem_map.1 hj2
        exact hI.ok y hy
      have hgr := grownBy_putObj' ((W.setCell ⟨w.heap.size, 0, none⟩ (.slice Av ys.length cv)).setCell ⟨w.heap.size + 1, 0, none⟩ (.int .i64 0)) D (.deferred none)
      have hrr : ∀ r, some D = some r → ∃ o : Obj, ((W.setCell ⟨w.heap.size, 0, none⟩ (.slice Av ys.length cv)).setCell ⟨w.heap.size + 1, 0, none⟩ (.int .i64 0)).heap[r]? = some o ∧ o.isCells = false := fun r e => by cases e; exact ⟨_, hK', rfl⟩
      have k2 := (blk_kept hs2' hgr hrr).cell 0
      have k3 := (blk_kept hs3 hgr hrr).cell 0
      refine ⟨.tuple #[.slice Av ys.length cv, .int .i64 0], ?_, .slice Av ys.length cv, by rw [hcr], ?_, ?_⟩
      · simp [results, Try.f21, go_sem, k2, k3]
      · rw [hcr]
        have b2r := Boxed.not_row (W := W) (B := w.heap.size) hI.r2 (by decide) hrow
        have b3r := Boxed.not_row (W := W) (B := w.heap.size + 1) hI.r3 (by decide) hrow
        have h1 := own_kept' (World.ownsRow.kept (World.ownsRow.kept hrow (grownBy_setCell' W w.heap.size (.slice Av ys.length cv)) (.inr b2r.symm)) (grownBy_setCell' _ (w.heap.size + 1) (.int .i64 0)) (.inr b3r.symm)) hgr hrr
        rw [hce] at h1
        unfold OwnE
        simp only
        rw [decs_len]
        rw [hm2] at h1 ⊢
        exact own_base h1 (Nat.zero_le _)
      · exact ((hI.below.setCell (p := ⟨w.heap.size, 0, none⟩) (Nat.le_refl _) _).setCell (p := ⟨w.heap.size + 1, 0, none⟩) (by show _ ≤ w.heap.size + 1; omega) _).trans (belowK_b (w := w) (Nat.le_refl _) _ D _ _ (by omega) hK' rfl rfl)
    case stop =>
      rintro D cc pre W hD hp hX hK
      obtain ⟨rfl, ⟨ini, x, rfl, hok, hne, h3⟩, h2, hB⟩ := hX
      gi_wp2
      refine ⟨by simp, .inl ⟨_, _, rfl, run_takeDeferred hK, ?_⟩⟩
      have hgr := grownBy_putObj' W D (.deferred none)
      have hrr : ∀ r, some D = some r → ∃ o : Obj, W.heap[r]? = some o ∧ o.isCells = false := fun r e => by cases e; exact ⟨_, hK, rfl⟩
      have k2 := (blk_kept h2 hgr hrr).cell 0
      have k3 := (blk_kept h3 hgr hrr).cell 0
      obtain ⟨k, hk, hp⟩ := hp
      have hcr : readD bs = ([], (decD (chk bs x.1)).2) := by
        rw [List.map_append] at hp
        obtain ⟨q, rfl⟩ : ∃ q, k = q + 1 := ⟨k - 1, by have := congrArg List.length hp; simp at this; omega⟩
        rw [List.range_succ] at hp
        obtain ⟨e1, e2⟩ := List.append_inj' hp rfl
        have e3 : x.1 = q := by simpa using e2
        rw [e3] at hne ⊢
        refine readD_bad h5 (by rw [← hm64.out.2]; omega) (fun j hj => ?_) hne
        have hj2 : j ∈ ini.map Subtype.val := by rw [e1]; exact List.mem_range.2 hj
        obtain ⟨y, hy, rfl⟩ := List.mem_map.1 hj2
        exact hok y hy
      refine ⟨.tuple #[.slice none 0 0, .int .i64 (decD (chk bs x.1)).2], ?_, .slice none 0 0, by rw [hcr], ?_, ?_⟩
      · simp [results, Try.f21, go_sem, k2, k3]
      · rw [hcr]
        exact World.ownsRow_nil _ _ _ _
      · exact hB.trans (belowK_b (w := w) (Nat.le_refl _) W D _ _ (by omega) hK rfl rfl)
  · have e : readD bs = ([], 3) := by unfold readD; rw [if_pos h5]
    rw [e]
    clear e
    have hm : ((bs.length : Int) % 512 != 0) = true := by simp; omega
    go_enter Try.func21, Try.ntmps21
    go_wp2
    have b2 : Blk ((w.alloc (.cells #[.slice none 0 0] 25)).alloc (.cells #[.int .i64 3] 26)) w.heap.size 25 #[.slice none 0 0] := (Blk.new _ _ _).alloc _
    have b3 : Blk ((w.alloc (.cells #[.slice none 0 0] 25)).alloc (.cells #[.int .i64 3] 26)) (w.heap.size + 1) 26 #[.int .i64 3] := by
      have := Blk.new (w.alloc (.cells #[.slice none 0 0] 25)) 26 #[.int .i64 3]
      rwa [World.size_alloc] at this
    have c2 := b2.cell 0
    have c3 := b3.cell 0
    refine bodyPost_ret (v := .tuple #[.slice none 0 0, .int .i64 3]) ?_ rfl ⟨_, rfl, World.ownsRow_nil _ _ _ _, ((Below.refl _ w).alloc (Nat.le_refl _) _).alloc (by simp) _⟩
    simp [results, Try.f21, go_sem, c2, c3]
end Go.Proofs.Ytoloogpglnonaaa
