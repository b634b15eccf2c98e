/- Slots that are the call's own; append and Clone of entries. -/
import Derived.Test.YtoloogpglnonaaaDi
namespace Go.Proofs.Ytoloogpglnonaaa
open Go.RowKit
theorem run_appK {P : Program} (w : World) (base : Nat) (t ty e : TypeId) (i : TypeInfo) (z : Value) (size bytes : Nat) (ht : P.underlying t = some (.slice e)) (hi : P.info? e = some i) (hz : i.zero = some z)
    (hsize : i.size = size) (hby : i.bytes = bytes) (hzs : z.cells.size = size) (hsz : 0 < size)
    (v : Value) (n : Nat) (xs : List Value) (hown : w.ownsRow base e size v n xs) (A : Option Addr) (m c : Nat) (news : List Value) (hl : news.length = m * size)
    (hr : m ≠ 0 → ∃ ad, A = some ad ∧ ∀ j u, news[j]? = some u → w.cell? (ad.add j) = some u) (h1 : ∀ u ∈ news, u.oneCell' = true)
    (h63 : n + m ≤ maxLen) (hbytes : (n + m) * bytes ≤ 140737488355328) (hbase : base ≤ w.heap.size) :
    ∃ v' w', (Builtin.append_ #[t, t] ty #[v, .slice A m c]).run P w = .ok v' w' ∧ w'.ownsRow base e size v' (n + m) (xs ++ news) ∧ w.grownBy w' v.ownBlock ∧
      (v'.ownBlock = v.ownBlock ∨ v'.ownBlock = some w.heap.size) := by
  by_cases hm : m = 0
  · subst hm
    have hn : news = [] := by simpa using hl
    subst hn
    rcases A with _ | ad
    · refine ⟨v, w, ?_, by simpa using hown, ⟨rfl, rfl, rfl, Nat.le_refl _, fun _ _ _ => rfl⟩, .inl rfl⟩
      rcases hown.2 with ⟨rfl, rfl⟩ | ⟨g, cap, cur, rfl, _, _, hnc, _⟩
      · simp [Builtin.append_, run_underlying ht, sizeOf, typeInfo, hi, Builtin.lenOf, Builtin.firstCells]
      · simp [Builtin.append_, run_underlying ht, sizeOf, typeInfo, hi, Builtin.lenOf, Builtin.firstCells, hnc, storeCells]
    · obtain ⟨v', w', hrun, h2, h3, _, h5⟩ := run_append_own_at (P := P) w base t ty e i z size bytes ht hi hz hsize hby hzs hsz v n xs hown ad 0 c [] (by simp) (by intro j u hu; simp at hu) h1 h63 hbytes hbase
      exact ⟨v', w', hrun, h2, h3, h5⟩
  · obtain ⟨ad, rfl, hcell⟩ := hr hm
    obtain ⟨v', w', hrun, h2, h3, _, h5⟩ := run_append_own_at (P := P) w base t ty e i z size bytes ht hi hz hsize hby hzs hsz v n xs hown ad m c news hl hcell h1 h63 hbytes hbase
    exact ⟨v', w', hrun, h2, h3, h5⟩
theorem wpList_appK {P : Program} (w : World) {ops : Array Oper} {rest : List Oper} {o : Oper} {a : Act} {Q : Exit → Act → World → Prop} (hgd : o.guard = none) {s x : Operand} {t : TypeId}
    (ho : o.op = .call { callee := .builtin .append, args := #[s, x], argTypes := #[t, t] })
    {base e : Nat} {i : TypeInfo} {z : Value} {size bytes : Nat} (ht : P.underlying t = some (.slice e)) (hi : P.info? e = some i) (hz : i.zero = some z)
    (hsize : i.size = size) (hby : i.bytes = bytes) (hzs : z.cells.size = size) (hsz : 0 < size)
    {v : Value} {n : Nat} {xs news : List Value} (hown : w.ownsRow base e size v n xs) (hs : a.eval s = v) {A : Option Addr} {m c : Nat} (hl : news.length = m * size)
    (hr : m ≠ 0 → ∃ ad, A = some ad ∧ ∀ j u, news[j]? = some u → w.cell? (ad.add j) = some u) (hx : a.eval x = .slice A m c) (h1 : ∀ u ∈ news, u.oneCell' = true)
    (h63 : n + m ≤ maxLen) (hbytes : (n + m) * bytes ≤ 140737488355328) (hbase : base ≤ w.heap.size)
    (h : ∀ v' w', w'.ownsRow base e size v' (n + m) (xs ++ news) → w.grownBy w' v.ownBlock → (v'.ownBlock = v.ownBlock ∨ v'.ownBlock = some w.heap.size) → wpList P ops Q rest (a.put o.dst v') w') :
    wpList P ops Q (o :: rest) a w :=
  wpList_plain hgd fun K hK => by
    obtain ⟨v', w', hrun, h2, h3, h5⟩ := run_appK (P := P) w base t o.type e i z size bytes ht hi hz hsize hby hzs hsz v n xs hown A m c news hl hr h1 h63 hbytes hbase
    unfold Oper.wp execOp
    simp only [ho, resolve, invoke, builtin, Sem.run_bind, Sem.run_pure, Result.andThen_ok, List.map_toArray, List.map_cons, List.map_nil, hs, hx, hrun]
    exact hK _ _ (h v' w' h2 h3 h5)
theorem Try.info_ent : (Try.prog.info? 43).map (fun i => (i.zero, i.size, i.bytes)) = some (some (.agg #[.string ⟨#[]⟩, .int .i64 0]), 2, 24) := by kernel_rfl
def cellsE (es : List Ent) : List Value := es.flatMap Ent.row
theorem cellsE_len (es : List Ent) : (cellsE es).length = es.length * 2 := by
  induction es with
  | nil => rfl
  | cons e r ih =>
    unfold cellsE at *
    rw [List.flatMap_cons, List.length_append, ih]
    simp [Ent.row]
    omega
theorem cellsE_get : ∀ (es : List Ent) (k j : Nat) (h : k < es.length), j < 2 → (cellsE es)[k * 2 + j]? = es[k].row[j]?
  | [], k, j, h, _ => by simp at h
  | e :: r, 0, j, _, hj => by
    unfold cellsE
    rw [List.flatMap_cons, Nat.zero_mul, Nat.zero_add, List.getElem?_append_left (by simp [Ent.row]; exact hj)]
    rfl
  | e :: r, k + 1, j, h, hj => by
    have ih := cellsE_get r k j (by simpa using h) hj
    unfold cellsE at *
    rw [List.flatMap_cons, List.getElem?_append_right (by simp [Ent.row]; omega), show (k + 1) * 2 + j - e.row.length = k * 2 + j by simp [Ent.row]; omega, ih]
    rfl
theorem cellsE_app (a b : List Ent) : cellsE (a ++ b) = cellsE a ++ cellsE b := List.flatMap_append
theorem cellsE_one (es : List Ent) : ∀ u ∈ cellsE es, u.oneCell' = true := by
  intro u hu
  obtain ⟨e, _, h⟩ := List.mem_flatMap.1 hu
  simp only [Ent.row, List.mem_cons, List.not_mem_nil, or_false] at h
  rcases h with rfl | rfl <;> rfl
def OwnE (w : World) (v : Value) (es : List Ent) : Prop := w.ownsRow 0 43 2 v es.length (cellsE es)
theorem OwnE.rd {w : World} {v : Value} {es : List Ent} (h : OwnE w v es) : RdE w v es := by
  have h0 := h
  rcases h.2 with ⟨rfl, hn⟩ | ⟨g, cap, cur, rfl, _⟩
  · have : es = [] := List.eq_nil_of_length_eq_zero hn
    subst this
    exact ⟨none, 0, rfl, fun hne => absurd rfl hne⟩
  · refine ⟨some ⟨g, 0, none⟩, cap, by rw [List.length_map], fun _ => ⟨_, rfl, fun i r j u hi hj => ?_⟩⟩
    rw [List.getElem?_map] at hi
    rcases Nat.lt_or_ge i es.length with hlt | hge
    · rw [List.getElem?_eq_getElem hlt] at hi
      injection hi with hi
      subst hi
      have hj2 : j < 2 := (List.getElem?_eq_some_iff.1 hj).1
      exact World.ownsRow.cells h0 rfl _ u (by rw [cellsE_get es i j hlt hj2]; exact hj)
    · rw [List.getElem?_eq_none hge] at hi; cases hi
theorem RdE.cells {w : World} {A : Option Addr} {n c : Nat} {es : List Ent} (h : RdE w (.slice A n c) es) : es.length ≠ 0 → ∃ ad, A = some ad ∧ ∀ j u, (cellsE es)[j]? = some u → w.cell? (ad.add j) = some u := by
  intro hne
  obtain ⟨A', c', e, hr⟩ := h
  injection e with e1 e2 e3
  subst e1
  obtain ⟨ad, rfl, hc⟩ := hr (by intro h; apply hne; simpa using congrArg List.length h)
  refine ⟨ad, rfl, fun j u hu => ?_⟩
  have hj := (List.getElem?_eq_some_iff.1 hu).1
  rw [cellsE_len] at hj
  have hk : j / 2 < es.length := by omega
  have e2 : j = j / 2 * 2 + j % 2 := by omega
  rw [e2, cellsE_get es (j / 2) (j % 2) hk (by omega)] at hu
  have := hc (j / 2) es[j / 2].row (j % 2) u (by rw [List.getElem?_map, List.getElem?_eq_getElem hk]; rfl) hu
  rw [← e2] at this
  exact this
def SlotsOut (w : World) (es : List Ent) (e : Ending) (w' : World) : Prop := ∃ v, e = .returned v ∧ OwnE w' v es ∧ Below w.heap.size w w' ∧ ∀ k, v.ownBlock = some k → w.heap.size ≤ k
set_option maxRecDepth 10000 in
set_option maxHeartbeats 1000000 in
theorem CloneE_calls (w : World) (v : Value) (es : List Ent) (hv : RdE w v es) (hl : es.length ≤ 1000000000) : Calls Try.prog 26 #[v] w (SlotsOut w es) := by
  obtain ⟨i0, hi, hz0, hz1, hz2⟩ := info_parts Try.info_ent
  have hv0 := hv
  obtain ⟨A, c, rfl⟩ := hv.shape
  have he : ∀ W : World, (binOp .eql 25 (.slice A es.length c) (.slice none 0 0)).run Try.prog W = .ok (.bool A.isNone) W := fun W => Lib.run_eql_slice_nil (P := Try.prog) W 25 43 A es.length c 0 0 Try.underlying25
  rcases A with _ | ad
  · have hu : es = [] := by
      by_cases hu : es.length = 0
      · exact List.eq_nil_of_length_eq_zero hu
      · obtain ⟨ad, h, _⟩ := hv.cells hu
        cases h
    subst hu
    simp only [Option.isNone_none, List.length_nil] at he
    go_enter Try.func26, Try.ntmps26
    go_wp2
    go_ret
    exact ⟨_, rfl, World.ownsRow_nil _ _ _ _, Below.refl _ _, fun k hk => by simp [Value.ownBlock] at hk⟩
  · simp only [Option.isNone_some] at he
    have hal : Below w.heap.size w (w.alloc (.cells #[] 43)) := (Below.refl _ _).alloc (Nat.le_refl _) _
    have hv1 := (hv0.below hal).cells
    go_enter Try.func26, Try.ntmps26
    go_wp2_with (at_builtin; refine stop_app rfl ?_)
    refine Stop.mk (wpList_appK _ rfl rfl (base := 0) (news := cellsE es) Try.underlying25 hi hz0 hz1 hz2 rfl (by decide) (World.ownsRow_made w #[] 0 (Nat.zero_le _) (by unfold maxLen; omega) rfl) rfl (cellsE_len es) hv1 rfl (cellsE_one es) ?_ ?_ (Nat.zero_le _) ?_)
    · unfold maxLen; omega
    · omega
    intro v1 w1 hown hg hat
    have ho : OwnE w1 v1 es := by simpa [OwnE] using hown
    have hB : Below w.heap.size w w1 := hal.grown hg (by simp) (fun k hk => by simp [Value.ownBlock] at hk; omega)
    have hf : ∀ k, v1.ownBlock = some k → w.heap.size ≤ k := fun k hk => by
      rcases hat with e | e <;> rw [hk] at e <;> simp [Value.ownBlock] at e <;> omega
    clear hown hg hat
    go_wp2
    go_ret
    exact ⟨v1, rfl, ho, hB, hf⟩
end Go.Proofs.Ytoloogpglnonaaa
