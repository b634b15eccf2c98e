/- Put, Take, Move on slots. -/
import Derived.Test.YtoloogpglnonaaaDc
namespace Go.Proofs.Ytoloogpglnonaaa
open Go.RowKit
theorem cellsE_set : ∀ (es : List Ent) (i : Nat) (e : Ent), i < es.length → ((cellsE es).set (i * 2) (.string ⟨e.name.toArray⟩)).set (i * 2 + 1) (.int .i64 e.ino) = cellsE (es.set i e)
  | [], i, e, h => by simp at h
  | x :: r, 0, e, _ => rfl
  | x :: r, i + 1, e, h => by
    have ih := cellsE_set r i e (by simpa using h)
    show ((x.row ++ cellsE r).set ((i + 1) * 2) _).set ((i + 1) * 2 + 1) _ = x.row ++ cellsE (r.set i e)
    rw [← ih, show (i + 1) * 2 = x.row.length + i * 2 by simp [Ent.row]; omega, List.set_append_right _ _ (by omega), show x.row.length + i * 2 + 1 = x.row.length + (i * 2 + 1) by omega, List.set_append_right _ _ (by omega)]
    simp
theorem OwnE.form {w : World} {v : Value} {es : List Ent} (h : OwnE w v es) (hn : 0 < es.length) : ∃ g cap, v = .slice (some ⟨g, 0, none⟩) es.length cap := by
  rcases h.2 with ⟨rfl, hn'⟩ | ⟨g', cap, cur, rfl, _, hg, _⟩
  · omega
  · exact ⟨_, _, rfl⟩
theorem OwnE.shape {w : World} {v : Value} {es : List Ent} (h : OwnE w v es) : ∃ A c, v = .slice A es.length c := by
  rcases h.2 with ⟨rfl, hn⟩ | ⟨g', cap, cur, rfl, _, hg, _⟩
  · exact ⟨none, 0, by rw [hn]⟩
  · exact ⟨_, _, rfl⟩
theorem OwnE.put {w : World} {g n cap : Nat} {es : List Ent} (h : OwnE w (.slice (some ⟨g, 0, none⟩) n cap) es) (hn : n = es.length) (i : Nat) (hi : i < es.length) (e : Ent) :
    OwnE ((w.setCell ⟨g, i * 2, none⟩ (.string ⟨e.name.toArray⟩)).setCell ⟨g, i * 2 + 1, none⟩ (.int .i64 e.ino)) (.slice (some ⟨g, 0, none⟩) n cap) (es.set i e) := by
  subst hn
  have h1 := (World.ownsRow.stored h (i * 2) (.string ⟨e.name.toArray⟩)).1
  have h2 := (World.ownsRow.stored h1 (i * 2 + 1) (.int .i64 e.ino)).1
  unfold OwnE
  rw [List.length_set, ← cellsE_set es i e hi]
  exact h2
theorem OwnE.cell {w : World} {g n cap : Nat} {es : List Ent} (h : OwnE w (.slice (some ⟨g, 0, none⟩) n cap) es) (i : Nat) (hi : i < es.length) :
    w.cell? ⟨g, i * 2, none⟩ = some (.string ⟨es[i].name.toArray⟩) ∧ w.cell? ⟨g, i * 2 + 1, none⟩ = some (.int .i64 es[i].ino) ∧ w.frozen? ⟨g, i * 2, none⟩ = false ∧ w.frozen? ⟨g, i * 2 + 1, none⟩ = false := by
  have hc := World.ownsRow.cells h rfl
  have hn : n = es.length := by
    rcases h.2 with ⟨h1, _⟩ | ⟨g', cap', cur, h1, _⟩
    · cases h1
    · injection h1
  subst hn
  refine ⟨?_, ?_, World.ownsRow.frozenAt h _, World.ownsRow.frozenAt h _⟩
  · have := hc (i * 2) _ (by rw [← Nat.add_zero (i * 2), cellsE_get es i 0 hi (by omega)]; rfl)
    rwa [addr_add_at, Nat.zero_add] at this
  · have := hc (i * 2 + 1) _ (by rw [cellsE_get es i 1 hi (by omega)]; rfl)
    rwa [addr_add_at, Nat.zero_add] at this
theorem OwnE.drewN {w : World} {v : Value} {es : List Ent} (h : OwnE w v es) (n : Nat) : OwnE (w.drewN n) v es := h
def takeP3 (es : List Ent) (name : List UInt8) : List Ent × Int × Int := if atP es name < 0 then ([], 0, 8) else (es.set (atP es name).toNat ⟨[], 0⟩, (es.getD (atP es name).toNat ⟨[], 0⟩).ino, 0)
def TripOut (w : World) (o : List Ent × Int × Int) (e : Ending) (w' : World) : Prop := ∃ v, e = .returned (.tuple #[v, .int .i64 o.2.1, .int .i64 o.2.2]) ∧ OwnE w' v o.1 ∧ Below w.heap.size w w' ∧ ∀ k, v.ownBlock = some k → w.heap.size ≤ k
set_option maxRecDepth 10000 in
set_option maxHeartbeats 2000000 in
theorem Take_calls (w : World) (v : Value) (es : List Ent) (name : List UInt8) (hv : RdE w v es) (hl : es.length ≤ 1000000000) :
    Calls Try.prog 11 #[v, .string ⟨name.toArray⟩] w (TripOut w (takeP3 es name)) := by
  have HA := at_calls w v es name hv hl
  have hv0 := Lib.hid hv
  obtain ⟨A, c, rfl⟩ := hv.shape
  unfold takeP3
  rcases atP_cases es name with h | ⟨j, h, hj, _⟩
  · rw [h] at HA ⊢
    rw [if_pos (by decide)]
    have HA := Lib.hid HA
    clear h
    go_enter Try.func11, Try.ntmps11
    go_wp2_with fail
    refine HA.out.mono ?_
    rintro e w1 ⟨rfl, hB⟩
    go_wp2
    go_ret3
    exact ⟨_, rfl, World.ownsRow_nil _ _ _ _, hB, fun k hk => by simp [Value.ownBlock] at hk⟩
  · rw [h] at HA ⊢
    rw [if_neg (by omega), Int.toNat_natCast]
    have hg : es.getD j ⟨[], 0⟩ = es[j] := by rw [List.getD_eq_getElem?_getD, List.getElem?_eq_getElem hj]; rfl
    rw [hg]
    obtain ⟨ej, hej⟩ : ∃ ej, Hid (ej = es[j]) := ⟨es[j], Lib.hid rfl⟩
    rw [← hej.out]
    have HA := Lib.hid HA
    clear h hg
    go_enter Try.func11, Try.ntmps11
    go_wp2_with fail
    refine HA.out.mono ?_
    rintro e w1 ⟨rfl, hB⟩
    go_wp2_with fail
    refine (CloneE_calls w1 _ es (hv0.out.below hB) hl).mono ?_
    rintro e w2 ⟨v2, rfl, ho2, hB2, hf2⟩
    obtain ⟨g2, c2, rfl⟩ := ho2.form (by omega)
    obtain ⟨d0, d1, f0, f1⟩ := ho2.cell j hj
    have hB2' := Lib.hid (hB.trans (hB2.mono hB.size))
    have hput := ho2.put rfl j hj ⟨[], 0⟩
    have hput := Lib.hid hput
    have hg2 : Hid (w.heap.size ≤ g2) := Nat.le_trans hB.size (hf2 g2 rfl)
    have hB3 : Hid (Below w.heap.size w ((w2.setCell ⟨g2, j * 2, none⟩ (.string ⟨#[]⟩)).setCell ⟨g2, j * 2 + 1, none⟩ (.int .i64 0))) := (hB2'.out.setCell (p := ⟨g2, j * 2, none⟩) hg2.out _).setCell (p := ⟨g2, j * 2 + 1, none⟩) hg2.out _
    obtain ⟨ad, rfl, e0, e1⟩ := (hv0.out.below hB3.out).at_ hj
    rw [← hej.out] at e0 e1
    clear ho2 hB2 hf2 hB HA
    have hlen : Hid ((es.set j ⟨[], 0⟩).length = es.length) := List.length_set
    go_wp2_with fail
    go_quiet (fail)
    have hputn := Lib.hid (OwnE.drewN hput.out nq)
    have hBn := Lib.hid (below_drewN hB3.out nq)
    go_wp2
    go_ret3
    exact ⟨_, rfl, hputn.out, hBn.out, fun k hk => by simp [Value.ownBlock] at hk; have := hg2.out; omega⟩
def moveP (es : List Ent) (old name : List UInt8) : List Ent × Int :=
  if atP es old < 0 then ([], 8) else if nameP name = false then ([], 12) else if name ≠ old ∧ 0 ≤ atP es name then ([], 9) else (es.set (atP es old).toNat ⟨name, (es.getD (atP es old).toNat ⟨[], 0⟩).ino⟩, 0)
def PairOut (w : World) (o : List Ent × Int) (e : Ending) (w' : World) : Prop := ∃ v, e = .returned (.tuple #[v, .int .i64 o.2]) ∧ OwnE w' v o.1 ∧ Below w.heap.size w w' ∧ ∀ k, v.ownBlock = some k → w.heap.size ≤ k
theorem OwnE.rename {w : World} {g n cap : Nat} {es : List Ent} (h : OwnE w (.slice (some ⟨g, 0, none⟩) n cap) es) (hn : n = es.length) (i : Nat) (hi : i < es.length) (name : List UInt8) :
    OwnE (w.setCell ⟨g, i * 2, none⟩ (.string ⟨name.toArray⟩)) (.slice (some ⟨g, 0, none⟩) n cap) (es.set i ⟨name, es[i].ino⟩) := by
  subst hn
  have h1 := (World.ownsRow.stored h (i * 2) (.string ⟨name.toArray⟩)).1
  unfold OwnE
  rw [List.length_set, ← cellsE_set es i ⟨name, es[i].ino⟩ hi]
  have e : ((cellsE es).set (i * 2) (.string ⟨name.toArray⟩)).set (i * 2 + 1) (.int .i64 es[i].ino) = (cellsE es).set (i * 2) (.string ⟨name.toArray⟩) := by
    apply List.ext_getElem?
    intro j
    rw [List.getElem?_set]
    split
    · rename_i he
      subst he
      have hl := cellsE_len es
      rw [List.getElem?_set_ne (by omega), cellsE_get es i 1 hi (by omega)]
      simp [Ent.row, hl]
      omega
    · rfl
  rw [e]
  exact h1
set_option maxRecDepth 10000 in
set_option maxHeartbeats 4000000 in
theorem Move_calls (w : World) (v : Value) (es : List Ent) (old name : List UInt8) (hv : RdE w v es) (hl : es.length ≤ 1000000000) (hn : name.length ≤ 9223372036854775807) :
    Calls Try.prog 13 #[v, .string ⟨old.toArray⟩, .string ⟨name.toArray⟩] w (PairOut w (moveP es old name)) := by
  have HA := at_calls w v es old hv hl
  have HN := Lib.hid (fun W => Name_calls W name hn)
  have hv0 := Lib.hid hv
  obtain ⟨A, c, rfl⟩ := hv.shape
  have HA2 := Lib.hid (fun W (h : Below w.heap.size w W) => at_calls W _ es name (hv0.out.below h) hl)
  unfold moveP
  rcases atP_cases es old with h | ⟨j, h, hj, _⟩
  · rw [h] at HA ⊢
    rw [if_pos (by decide)]
    have HA := Lib.hid HA
    clear h
    go_enter Try.func13, Try.ntmps13
    go_wp2_with fail
    refine HA.out.mono ?_
    rintro e w1 ⟨rfl, hB⟩
    go_wp2
    go_ret2
    exact ⟨_, rfl, World.ownsRow_nil _ _ _ _, hB, fun k hk => by simp [Value.ownBlock] at hk⟩
  · rw [h] at HA ⊢
    rw [if_neg (by omega), Int.toNat_natCast]
    have hg : es.getD j ⟨[], 0⟩ = es[j] := by rw [List.getD_eq_getElem?_getD, List.getElem?_eq_getElem hj]; rfl
    rw [hg]
    have HA := Lib.hid HA
    clear h hg
    obtain ⟨nb, hnb⟩ : ∃ nb, nameP name = nb := ⟨_, rfl⟩
    rw [hnb] at HN ⊢
    clear hnb
    cases nb
    · rw [if_pos rfl]
      go_enter Try.func13, Try.ntmps13
      go_wp2_with fail
      refine HA.out.mono ?_
      rintro e w1 ⟨rfl, hB⟩
      go_wp2_with fail
      refine (HN.out _).mono ?_
      rintro e w2 ⟨rfl, rfl⟩
      go_wp2
      go_ret2
      exact ⟨_, rfl, World.ownsRow_nil _ _ _ _, hB, fun k hk => by simp [Value.ownBlock] at hk⟩
    · rw [if_neg (by decide)]
      by_cases hno : name = old
      · rw [if_neg (fun h => h.1 hno)]
        subst hno
        have hbq : (name == name) = true := by simp
        go_enter Try.func13, Try.ntmps13
        go_wp2_with fail
        refine HA.out.mono ?_
        rintro e w1 ⟨rfl, hB⟩
        go_wp2_with fail
        refine (HN.out _).mono ?_
        rintro e w2 ⟨rfl, rfl⟩
        go_wp2_with fail
        refine (CloneE_calls w1 _ es (hv0.out.below hB) hl).mono ?_
        rintro e w4 ⟨v4, rfl, ho4, hB4, hf4⟩
        obtain ⟨g4, c4, rfl⟩ := ho4.form (by omega)
        obtain ⟨d0, d1, f0, f1⟩ := ho4.cell j hj
        have hB4' := hB.trans (hB4.mono hB.size)
        have hg4 : w.heap.size ≤ g4 := Nat.le_trans hB.size (hf4 g4 rfl)
        have hput := Lib.hid (ho4.rename rfl j hj name)
        have hB5 := Lib.hid (hB4'.setCell (p := ⟨g4, j * 2, none⟩) hg4 (.string ⟨name.toArray⟩))
        have hg4 := Lib.hid hg4
        clear ho4 hB4 hf4 hB4' d1 f1
        go_wp2
        go_ret2
        exact ⟨_, rfl, hput.out, hB5.out, fun k hk => by simp [Value.ownBlock] at hk; have := hg4.out; omega⟩
      · have hnb : (name == old) = false := by rw [beq_eq_false_iff_ne]; exact hno
        rcases atP_cases es name with h5 | ⟨j5, h5, _, _⟩
        · rw [if_neg (by rw [h5]; intro h; exact absurd h.2 (by decide))]
          rw [h5] at HA2
          go_enter Try.func13, Try.ntmps13
          go_wp2_with fail
          refine HA.out.mono ?_
          rintro e w1 ⟨rfl, hB⟩
          go_wp2_with fail
          refine (HN.out _).mono ?_
          rintro e w2 ⟨rfl, rfl⟩
          go_wp2_with fail
          refine (HA2.out w1 hB).mono ?_
          rintro e w3 ⟨rfl, hB3⟩
          have hB3' := hB.trans (hB3.mono hB.size)
          clear hB3
          go_wp2_with fail
          refine (CloneE_calls w3 _ es (hv0.out.below hB3') hl).mono ?_
          rintro e w4 ⟨v4, rfl, ho4, hB4, hf4⟩
          obtain ⟨g4, c4, rfl⟩ := ho4.form (by omega)
          obtain ⟨d0, d1, f0, f1⟩ := ho4.cell j hj
          have hB4' := hB3'.trans (hB4.mono hB3'.size)
          have hg4 : w.heap.size ≤ g4 := Nat.le_trans hB3'.size (hf4 g4 rfl)
          have hput := Lib.hid (ho4.rename rfl j hj name)
          have hB5 := Lib.hid (hB4'.setCell (p := ⟨g4, j * 2, none⟩) hg4 (.string ⟨name.toArray⟩))
          have hg4 := Lib.hid hg4
          clear ho4 hB4 hf4 hB4' d1 f1
          go_wp2
          go_ret2
          exact ⟨_, rfl, hput.out, hB5.out, fun k hk => by simp [Value.ownBlock] at hk; have := hg4.out; omega⟩
        · rw [if_pos ⟨hno, by omega⟩]
          rw [h5] at HA2
          go_enter Try.func13, Try.ntmps13
          go_wp2_with fail
          refine HA.out.mono ?_
          rintro e w1 ⟨rfl, hB⟩
          go_wp2_with fail
          refine (HN.out _).mono ?_
          rintro e w2 ⟨rfl, rfl⟩
          go_wp2_with fail
          refine (HA2.out w1 hB).mono ?_
          rintro e w3 ⟨rfl, hB3⟩
          have hB3' := hB.trans (hB3.mono hB.size)
          clear hB3
          go_wp2
          go_ret2
          exact ⟨_, rfl, World.ownsRow_nil _ _ _ _, hB3', fun k hk => by simp [Value.ownBlock] at hk⟩
end Go.Proofs.Ytoloogpglnonaaa
