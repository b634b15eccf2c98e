/- Entries in slots; where a name stands. -/
import Derived.Test.YtoloogpglnonaaaDn
import Derived.Test.YtoloogpglnonaaaFlt
namespace Go.Proofs.Ytoloogpglnonaaa
open Go.RowKit
structure Ent where
  name : List UInt8
  ino : Int
deriving DecidableEq
def Ent.row (e : Ent) : List Value := [.string ⟨e.name.toArray⟩, .int .i64 e.ino]
def RdE (w : World) (v : Value) (es : List Ent) : Prop := RdF 2 w v (es.map Ent.row)
theorem RdE.below {w w' : World} {v : Value} {es : List Ent} (h : RdE w v es) (hb : Below w.heap.size w w') : RdE w' v es := RdF.below h hb
theorem RdE.shape {w : World} {v : Value} {es : List Ent} (h : RdE w v es) : ∃ A c, v = .slice A es.length c := by
  obtain ⟨A, c, e⟩ := RdF.shape h
  rw [List.length_map] at e
  exact ⟨A, c, e⟩
theorem RdE.at_ {w : World} {A : Option Addr} {n c : Nat} {es : List Ent} (h : RdE w (.slice A n c) es) {k : Nat} (hk : k < es.length) :
    ∃ ad, A = some ad ∧ w.cell? (ad.add (k * 2)) = some (.string ⟨es[k].name.toArray⟩) ∧ w.cell? ⟨(ad.add (k * 2)).block, (ad.add (k * 2)).off + 1, none⟩ = some (.int .i64 es[k].ino) := by
  obtain ⟨ad, e, hc⟩ := RdF.at_ h (k := k) (by rw [List.length_map]; exact hk)
  rw [List.getElem_map] at hc
  refine ⟨ad, e, ?_, add_cell (j := 0) (hc 1 _ rfl)⟩
  have := hc 0 _ rfl
  simpa [addr_add_add] using this
theorem at1_calls (W : World) (e : Ent) (B : Nat) (name : List UInt8) (hc : W.cell? ⟨B, 0, none⟩ = some (.string ⟨name.toArray⟩)) (hB : B < W.heap.size) :
    Calls Try.prog 51 #[.agg #[.string ⟨e.name.toArray⟩, .int .i64 e.ino], .pointer (some ⟨B, 0, none⟩)] W fun x W' => x = .returned (.bool (e.name == name)) ∧ Below W.heap.size W W' := by
  have hne : B ≠ W.heap.size := by omega
  go_enter Try.func51, Try.ntmps51
  go_wp2
  go_ret
  exact ⟨rfl, (Below.refl _ _).alloc (Nat.le_refl _) _⟩
def findI (p : Ent → Bool) : List Ent → Nat → Int
  | [], _ => -1
  | e :: r, k => if p e then (k : Int) else findI p r (k + 1)
theorem findI_skip (p : Ent → Bool) : ∀ (es : List Ent) (k j : Nat), j ≤ es.length → (∀ i (h : i < es.length), i < j → p es[i] = false) → findI p es k = findI p (es.drop j) (k + j)
  | es, k, 0, _, _ => by simp
  | [], k, j + 1, h, _ => by simp at h
  | e :: r, k, j + 1, h, hp => by
    have h0 := hp 0 (by simp) (by omega)
    simp only [List.getElem_cons_zero] at h0
    show (if p e = true then (k : Int) else findI p r (k + 1)) = _
    rw [h0, if_neg (by decide), findI_skip p r (k + 1) j (by simpa using h) (fun i hi hij => by have := hp (i + 1) (by simpa using hi) (by omega); simpa using this)]
    simp [Nat.add_assoc, Nat.add_comm 1 j]
theorem findI_hit (p : Ent → Bool) (es : List Ent) (j : Nat) (hj : j < es.length) (hn : ∀ i (h : i < es.length), i < j → p es[i] = false) (h : p es[j] = true) : findI p es 0 = j := by
  rw [findI_skip p es 0 j (by omega) hn, List.drop_eq_getElem_cons hj]
  simp [findI, h]
theorem findI_none (p : Ent → Bool) (es : List Ent) (hn : ∀ i (h : i < es.length), p es[i] = false) : findI p es 0 = -1 := by
  rw [findI_skip p es 0 es.length (Nat.le_refl _) (fun i h _ => hn i h)]
  simp [findI]
def IntOut (w : World) (n : Int) (e : Ending) (w' : World) : Prop := e = .returned (.int .i64 n) ∧ Below w.heap.size w w'
set_option maxRecDepth 10000 in
set_option maxHeartbeats 2000000 in
theorem idxA_calls (w : World) (v : Value) (es : List Ent) (B : Nat) (name : List UInt8) (hv : RdE w v es) (hl : es.length ≤ 1000000000) (hc : w.cell? ⟨B, 0, none⟩ = some (.string ⟨name.toArray⟩)) (hB : B < w.heap.size) :
    Calls Try.prog 27 #[v, .func (.func 51) #[] #[.pointer (some ⟨B, 0, none⟩)]] w (IntOut w (findI (fun e => e.name == name) es 0)) := by
  have hv0 := Lib.hid hv
  obtain ⟨A, c, rfl⟩ := hv.shape
  have HC : Hid (∀ W, Below w.heap.size w W → W.cell? ⟨B, 0, none⟩ = some (.string ⟨name.toArray⟩) ∧ B < W.heap.size) := fun W hW => ⟨(hW.cell (p := ⟨B, 0, none⟩) hB).trans hc, Nat.lt_of_lt_of_le hB hW.size⟩
  clear hv hc
  go_enter Try.func27, Try.ntmps27
  go_wp2
  go_loopw [8] (fun i wr => ∃ k : Nat, k ≤ es.length ∧ i = .int .i64 k ∧ Hid (∀ j (h : j < es.length), j < k → (es[j].name == name) = false) ∧ Hid (Below w.heap.size w wr)) (fun i _ => es.length - (intOf i).toNat)
  case atStart => exact ⟨0, Nat.zero_le _, rfl, fun j _ h => by omega, Below.refl _ _⟩
  case round =>
    obtain ⟨k, hk, rfl, hA, hBl⟩ := hrel
    by_cases hlt : k < es.length
    · obtain ⟨ad, rfl, c0, c1⟩ := (hv0.out.below hBl.out).at_ hlt
      have HK := Lib.hid (at1_calls wr es[k] B name (HC.out wr hBl.out).1 (HC.out wr hBl.out).2)
      obtain ⟨bq, hbq⟩ : ∃ bq, Hid ((es[k].name == name) = bq) := ⟨_, Lib.hid rfl⟩
      have HK2 := HK.out
      rw [hbq.out] at HK2
      have HK2 := Lib.hid HK2
      clear HK
      have hhit : Hid (bq = true → findI (fun e => e.name == name) es 0 = k) := fun h => findI_hit _ es k hlt (fun i hi hik => hA.out i hi hik) (by rw [← h, ← hbq.out])
      have hmiss : Hid (bq = false → ∀ j (h : j < es.length), j < k + 1 → (es[j].name == name) = false) := by
        intro h j hj hjk
        rcases Nat.lt_or_eq_of_le (Nat.lt_succ_iff.1 hjk) with h5 | rfl
        · exact hA.out j hj h5
        · rw [hbq.out, h]
      clear hbq hA
      generalize es[k] = ek at *
      go_wp2_with fail
      refine HK2.out.mono ?_
      rintro e wn ⟨rfl, hB2⟩
      have hBn := Lib.hid (hBl.out.trans (hB2.mono hBl.out.size))
      clear HK2 hBl hB2
      cases bq
      · have hm := Lib.hid (hmiss.out rfl)
        clear hmiss hhit
        go_wp2
        go_roundw
        case rel => exact ⟨k + 1, by omega, rfl, hm, hBn⟩
        case measure => simp [intOf]; omega
      · have hh := Lib.hid (hhit.out rfl)
        clear hmiss hhit
        go_wp2
        go_ret
        exact ⟨by rw [hh.out]; rfl, hBn.out⟩
    · have hn : Hid (findI (fun e => e.name == name) es 0 = -1) := findI_none _ es (fun i hi => hA.out i hi (by omega))
      go_wp2
      go_ret
      exact ⟨by rw [hn.out]; rfl, hBl.out⟩
theorem put1_calls (W : World) (e : Ent) :
    Calls Try.prog 28 #[.agg #[.string ⟨e.name.toArray⟩, .int .i64 e.ino]] W fun x W' => x = .returned (.bool (e.name == [])) ∧ Below W.heap.size W W' := by
  go_enter Try.func28, Try.ntmps28
  go_wp2
  go_ret
  refine ⟨?_, (Below.refl _ _).alloc (Nat.le_refl _) _⟩
  first | rfl | (cases e.name <;> rfl)
set_option maxRecDepth 10000 in
set_option maxHeartbeats 2000000 in
theorem idxB_calls (w : World) (v : Value) (es : List Ent) (hv : RdE w v es) (hl : es.length ≤ 1000000000) :
    Calls Try.prog 27 #[v, .func (.func 28) #[] #[]] w (IntOut w (findI (fun e => e.name == []) es 0)) := by
  have hv0 := Lib.hid hv
  obtain ⟨A, c, rfl⟩ := hv.shape
  clear hv
  go_enter Try.func27, Try.ntmps27
  go_wp2
  go_loopw [8] (fun i wr => ∃ k : Nat, k ≤ es.length ∧ i = .int .i64 k ∧ Hid (∀ j (h : j < es.length), j < k → (es[j].name == []) = false) ∧ Hid (Below w.heap.size w wr)) (fun i _ => es.length - (intOf i).toNat)
  case atStart => exact ⟨0, Nat.zero_le _, rfl, fun j _ h => by omega, Below.refl _ _⟩
  case round =>
    obtain ⟨k, hk, rfl, hA, hBl⟩ := hrel
    by_cases hlt : k < es.length
    · obtain ⟨ad, rfl, c0, c1⟩ := (hv0.out.below hBl.out).at_ hlt
      have HK := Lib.hid (put1_calls wr es[k])
      obtain ⟨bq, hbq⟩ : ∃ bq, Hid ((es[k].name == []) = bq) := ⟨_, Lib.hid rfl⟩
      have HK2 := HK.out
      rw [hbq.out] at HK2
      have HK2 := Lib.hid HK2
      clear HK
      have hhit : Hid (bq = true → findI (fun e => e.name == []) es 0 = k) := fun h => findI_hit _ es k hlt (fun i hi hik => hA.out i hi hik) (by rw [← h, ← hbq.out])
      have hmiss : Hid (bq = false → ∀ j (h : j < es.length), j < k + 1 → (es[j].name == []) = false) := by
        intro h j hj hjk
        rcases Nat.lt_or_eq_of_le (Nat.lt_succ_iff.1 hjk) with h5 | rfl
        · exact hA.out j hj h5
        · rw [hbq.out, h]
      clear hbq hA
      generalize es[k] = ek at *
      go_wp2_with fail
      refine HK2.out.mono ?_
      rintro e wn ⟨rfl, hB2⟩
      have hBn := Lib.hid (hBl.out.trans (hB2.mono hBl.out.size))
      clear HK2 hBl hB2
      cases bq
      · have hm := Lib.hid (hmiss.out rfl)
        clear hmiss hhit
        go_wp2
        go_roundw
        case rel => exact ⟨k + 1, by omega, rfl, hm, hBn⟩
        case measure => simp [intOf]; omega
      · have hh := Lib.hid (hhit.out rfl)
        clear hmiss hhit
        go_wp2
        go_ret
        exact ⟨by rw [hh.out]; rfl, hBn.out⟩
    · have hn : Hid (findI (fun e => e.name == []) es 0 = -1) := findI_none _ es (fun i hi => hA.out i hi (by omega))
      go_wp2
      go_ret
      exact ⟨by rw [hn.out]; rfl, hBl.out⟩
def atP (es : List Ent) (name : List UInt8) : Int := if name = [] then -1 else findI (fun e => e.name == name) es 0
theorem at_calls (w : World) (v : Value) (es : List Ent) (name : List UInt8) (hv : RdE w v es) (hl : es.length ≤ 1000000000) :
    Calls Try.prog 25 #[v, .string ⟨name.toArray⟩] w (IntOut w (atP es name)) := by
  have hal : Below w.heap.size w (w.alloc (.cells #[.string ⟨name.toArray⟩] 9)) := (Below.refl _ _).alloc (Nat.le_refl _) _
  have hb : Blk (w.alloc (.cells #[.string ⟨name.toArray⟩] 9)) w.heap.size 9 #[.string ⟨name.toArray⟩] := Blk.new _ _ _
  unfold atP
  by_cases hn : name = []
  · rw [if_pos hn]
    subst hn
    go_enter Try.func25, Try.ntmps25
    go_wp2
    go_ret
    exact ⟨rfl, hal⟩
  · rw [if_neg hn]
    have hne : (name == []) = false := by rw [beq_eq_false_iff_ne]; exact hn
    have HI := Lib.hid (idxA_calls _ v es w.heap.size name (hv.below hal) hl (hb.cell 0) hb.lt)
    have hal := Lib.hid hal
    clear hb hn
    go_enter Try.func25, Try.ntmps25
    go_wp2_with fail
    refine HI.out.mono ?_
    rintro e w1 ⟨rfl, hB⟩
    have hB2 := hal.out.trans (hB.mono hal.out.size)
    go_wp2
    go_ret
    exact ⟨rfl, hB2⟩
theorem findI_le (p : Ent → Bool) : ∀ (es : List Ent) (k : Nat), findI p es k = -1 ∨ ∃ j : Nat, findI p es k = ((k + j : Nat) : Int) ∧ ∃ h : j < es.length, p es[j] = true
  | [], k => .inl rfl
  | e :: r, k => by
    unfold findI
    by_cases h : p e = true
    · rw [if_pos h]
      exact .inr ⟨0, by simp, by simp, by simpa using h⟩
    · rw [if_neg h]
      rcases findI_le p r (k + 1) with h1 | ⟨j, h1, h2, h3⟩
      · exact .inl h1
      · exact .inr ⟨j + 1, by rw [h1]; congr 1; omega, by simpa using h2, by simpa using h3⟩
theorem atP_cases (es : List Ent) (name : List UInt8) : atP es name = -1 ∨ ∃ j : Nat, atP es name = (j : Int) ∧ ∃ h : j < es.length, es[j].name = name := by
  unfold atP
  by_cases hn : name = []
  · exact .inl (if_pos hn)
  · rw [if_neg hn]
    rcases findI_le (fun e => e.name == name) es 0 with h | ⟨j, h, hj, hp⟩
    · exact .inl h
    · exact .inr ⟨j, by rw [h]; congr 1; omega, hj, by simpa using hp⟩
def FindOut (w : World) (o : Int × Bool) (e : Ending) (w' : World) : Prop := e = .returned (.tuple #[.int .i64 o.1, .bool o.2]) ∧ Below w.heap.size w w'
def findP (es : List Ent) (name : List UInt8) : Int × Bool := if atP es name < 0 then (0, false) else ((es.getD (atP es name).toNat ⟨[], 0⟩).ino, true)
set_option maxRecDepth 10000 in
set_option maxHeartbeats 1000000 in
theorem Find_calls (w : World) (v : Value) (es : List Ent) (name : List UInt8) (hv : RdE w v es) (hl : es.length ≤ 1000000000) :
    Calls Try.prog 14 #[v, .string ⟨name.toArray⟩] w (FindOut w (findP es name)) := by
  have HA := at_calls w v es name hv hl
  have hv0 := Lib.hid hv
  obtain ⟨A, c, rfl⟩ := hv.shape
  unfold findP
  rcases atP_cases es name with h | ⟨j, h, hj, _⟩
  · rw [h] at HA ⊢
    rw [if_pos (by decide)]
    have HA := Lib.hid HA
    clear h
    go_enter Try.func14, Try.ntmps14
    go_wp2_with fail
    refine HA.out.mono ?_
    rintro e w1 ⟨rfl, hB⟩
    go_wp2
    go_ret2
    exact ⟨rfl, hB⟩
  · rw [h] at HA ⊢
    rw [if_neg (by omega), Int.toNat_natCast]
    have hg : es.getD j ⟨[], 0⟩ = es[j] := by rw [List.getD_eq_getElem?_getD, List.getElem?_eq_getElem hj]; rfl
    rw [hg]
    obtain ⟨ej, hej⟩ : ∃ ej, Hid (ej = es[j]) := ⟨es[j], Lib.hid rfl⟩
    rw [← hej.out]
    have HA := Lib.hid HA
    clear h hg
    go_enter Try.func14, Try.ntmps14
    go_wp2_with fail
    refine HA.out.mono ?_
    rintro e w1 ⟨rfl, hB⟩
    obtain ⟨ad, rfl, c0, c1⟩ := (hv0.out.below hB).at_ hj
    rw [← hej.out] at c0 c1
    go_wp2
    go_ret2
    exact ⟨rfl, hB⟩
end Go.Proofs.Ytoloogpglnonaaa
