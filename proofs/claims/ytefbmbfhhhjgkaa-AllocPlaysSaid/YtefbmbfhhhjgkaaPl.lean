/- Pools that are not right: Take, Free, Clear. Printed by genaq.py. The document's pools. Printed by genar.py. What AllocPlays holds: a pool, the document's pool, what was committed. The inputs of AllocPlays: acts of two numbers, a pool of three. -/
import Derived.Test.YtefbmbfhhhjgkaaAh
import Derived.Test.YtefbmbfhhhjgkaaAa
namespace Go.Proofs.Ytefbmbfhhhjgkaa
open Go.RowKit
set_option maxRecDepth 100000 in
set_option maxHeartbeats 8000000 in
theorem Clear_bad (w : World) {gt : Nat} {m f n b : Int} (hm : I64 m) (hf : I64 f) (hn : I64 n) (hb : 0 ≤ b ∧ b ≤ 100000) (hr : rightP m f n b = false)
    (hblk : ∀ W, Below w.heap.size w W → Calls Try.prog 68 #[.pointer (some ⟨gt, 0, none⟩)] W (Ans W (.int .i64 b))) :
    Calls Try.prog 9 #[.agg #[.int .i64 m, .int .i64 f, .int .i64 n], .pointer (some ⟨gt, 0, none⟩)] w fun e w' => e = .returned (.int .i64 1) ∧ Below w.heap.size w w' := by
  obtain ⟨wE, hwE⟩ : ∃ wE, (w.alloc (.cells #[.int .i64 m, .int .i64 f, .int .i64 n] 29)).alloc (.cells #[.pointer (some ⟨gt, 0, none⟩)] 25) = wE := ⟨_, rfl⟩
  have hBE : Below w.heap.size w wE := by
    rw [← hwE]
    exact ((Below.refl _ _).alloc (Nat.le_refl _) _).alloc (by simp) _
  have e1 : (w.alloc (.cells #[.int .i64 m, .int .i64 f, .int .i64 n] 29)).heap.size = w.heap.size + 1 := World.size_alloc _ _
  have b0 : Blk wE w.heap.size 29 #[.int .i64 m, .int .i64 f, .int .i64 n] := by
    rw [← hwE]; exact (Blk.new w _ _).alloc _
  have b1 : Blk wE (w.heap.size + 1) 25 #[.pointer (some ⟨gt, 0, none⟩)] := by
    rw [← hwE, ← e1]; exact Blk.new _ _ _
  have hld := load_pool b0
  have d1 : wE.cell? ⟨w.heap.size + 1, 0, none⟩ = some (.pointer (some ⟨gt, 0, none⟩)) := b1.cell 0
  have hsE := b1.lt
  have hEach := Lib.hid (each_bad wE (gt := gt) hm hf hn hb hr (.func (.func 34) #[] #[.pointer (some ⟨w.heap.size + 1, 0, none⟩), .pointer (some ⟨w.heap.size, 0, none⟩)]) (fun W hb => hblk W (hBE.trans (hb.mono hBE.size))))
  have hBEh := Lib.hid hBE
  clear hblk hr b0 b1 hBE
  go_enter Try.func9, Try.ntmps9
  go_wp2_with (with_reducible refine stop_load 29 ?_)
  refine Stop.mk (wpList_load_cells rfl rfl rfl hld ?_)
  clear hld hwE
  go_wp2_with fail
  refine hEach.out.mono ?_
  rintro e w5 ⟨rfl, hb5⟩
  have hfin := Lib.hid (hBEh.out.trans (hb5.mono hBEh.out.size))
  clear hEach hb5
  go_wp2
  go_ret
  exact ⟨rfl, hfin.out⟩
set_option maxRecDepth 100000 in
set_option maxHeartbeats 8000000 in
theorem Take_bad (w : World) {gt : Nat} {m f n b : Int} (hm : I64 m) (hf : I64 f) (hn : I64 n) (hb : 0 ≤ b ∧ b ≤ 100000) (hr : rightP m f n b = false)
    (hblk : ∀ W, Below w.heap.size w W → Calls Try.prog 68 #[.pointer (some ⟨gt, 0, none⟩)] W (Ans W (.int .i64 b))) :
    Calls Try.prog 10 #[.agg #[.int .i64 m, .int .i64 f, .int .i64 n], .pointer (some ⟨gt, 0, none⟩)] w fun e w' => e = .returned (.tuple #[.int .i64 0, .int .i64 1]) ∧ Below w.heap.size w w' := by
  obtain ⟨w1, hw1⟩ : ∃ w1, (((w.alloc (.cells #[.int .i64 m, .int .i64 f, .int .i64 n] 29)).alloc (.cells #[.pointer (some ⟨gt, 0, none⟩)] 25)).alloc (.cells #[.int .i64 0] 3)).alloc (.cells #[.bool false] 4) = w1 := ⟨_, rfl⟩
  have hB1 : Below w.heap.size w w1 := by
    rw [← hw1]
    exact ((((Below.refl _ _).alloc (Nat.le_refl _) _).alloc (by simp) _).alloc (by simp; omega) _).alloc (by simp; omega) _
  have e1 : (w.alloc (.cells #[.int .i64 m, .int .i64 f, .int .i64 n] 29)).heap.size = w.heap.size + 1 := World.size_alloc _ _
  have e2 : ((w.alloc (.cells #[.int .i64 m, .int .i64 f, .int .i64 n] 29)).alloc (.cells #[.pointer (some ⟨gt, 0, none⟩)] 25)).heap.size = w.heap.size + 1 + 1 := by rw [World.size_alloc, e1]
  have e3 : (((w.alloc (.cells #[.int .i64 m, .int .i64 f, .int .i64 n] 29)).alloc (.cells #[.pointer (some ⟨gt, 0, none⟩)] 25)).alloc (.cells #[.int .i64 0] 3)).heap.size = w.heap.size + 1 + 1 + 1 := by rw [World.size_alloc, e2]
  have b0 : Blk w1 w.heap.size 29 #[.int .i64 m, .int .i64 f, .int .i64 n] := by
    rw [← hw1]; exact (((Blk.new w _ _).alloc _).alloc _).alloc _
  have b1 : Blk w1 (w.heap.size + 1) 25 #[.pointer (some ⟨gt, 0, none⟩)] := by
    rw [← hw1, ← e1]; exact ((Blk.new _ _ _).alloc _).alloc _
  have b2 : Blk w1 (w.heap.size + 1 + 1) 3 #[.int .i64 0] := by
    rw [← hw1, ← e2]; exact (Blk.new _ _ _).alloc _
  have b3 : Blk w1 (w.heap.size + 1 + 1 + 1) 4 #[.bool false] := by
    rw [← hw1, ← e3]; exact Blk.new _ _ _
  have c2 : w1.cell? ⟨w.heap.size + 1 + 1, 0, none⟩ = some (.int .i64 0) := b2.cell 0
  have c3 : w1.cell? ⟨w.heap.size + 1 + 1 + 1, 0, none⟩ = some (.bool false) := b3.cell 0
  have f2' := b2.frozen 0
  have f3' := b3.frozen 0
  have hn23 : w.heap.size + 1 + 1 ≠ w.heap.size + 1 + 1 + 1 := by omega
  have hBE : Below w.heap.size w ((w1.setCell ⟨w.heap.size + 1 + 1, 0, none⟩ (.int .i64 0)).setCell ⟨w.heap.size + 1 + 1 + 1, 0, none⟩ (.bool false)) := (hB1.setCell (p := ⟨w.heap.size + 1 + 1, 0, none⟩) (show w.heap.size ≤ w.heap.size + 1 + 1 by omega) _).setCell (p := ⟨w.heap.size + 1 + 1 + 1, 0, none⟩) (show w.heap.size ≤ w.heap.size + 1 + 1 + 1 by omega) _
  have b0E : Blk ((w1.setCell ⟨w.heap.size + 1 + 1, 0, none⟩ (.int .i64 0)).setCell ⟨w.heap.size + 1 + 1 + 1, 0, none⟩ (.bool false)) w.heap.size 29 #[.int .i64 m, .int .i64 f, .int .i64 n] := (b0.farN (by omega) 0 _).farN (by omega) 0 _
  have b1E : Blk ((w1.setCell ⟨w.heap.size + 1 + 1, 0, none⟩ (.int .i64 0)).setCell ⟨w.heap.size + 1 + 1 + 1, 0, none⟩ (.bool false)) (w.heap.size + 1) 25 #[.pointer (some ⟨gt, 0, none⟩)] := (b1.farN (by omega) 0 _).farN (by omega) 0 _
  have b3E : Blk ((w1.setCell ⟨w.heap.size + 1 + 1, 0, none⟩ (.int .i64 0)).setCell ⟨w.heap.size + 1 + 1 + 1, 0, none⟩ (.bool false)) (w.heap.size + 1 + 1 + 1) 4 #[.bool false] := (b3.farN (by omega) 0 _).set_ 0 _
  obtain ⟨wE, hwE⟩ : ∃ wE, (w1.setCell ⟨w.heap.size + 1 + 1, 0, none⟩ (.int .i64 0)).setCell ⟨w.heap.size + 1 + 1 + 1, 0, none⟩ (.bool false) = wE := ⟨_, rfl⟩
  rw [hwE] at b0E b1E b3E hBE
  have hld := load_pool b0E
  have d1 : wE.cell? ⟨w.heap.size + 1, 0, none⟩ = some (.pointer (some ⟨gt, 0, none⟩)) := b1E.cell 0
  have hsE : w.heap.size + 1 + 1 + 1 < wE.heap.size := b3E.lt
  have hEach := Lib.hid (each_bad wE (gt := gt) hm hf hn hb hr (.func (.func 36) #[] #[.pointer (some ⟨w.heap.size, 0, none⟩), .pointer (some ⟨w.heap.size + 1 + 1, 0, none⟩), .pointer (some ⟨w.heap.size + 1 + 1 + 1, 0, none⟩), .pointer (some ⟨w.heap.size + 1, 0, none⟩)]) (fun W hb => hblk W (hBE.trans (hb.mono hBE.size))))
  have hBEh := Lib.hid hBE
  clear hblk hr b0 b1 b2 b3 b0E b1E b3E hBE e1 e2 e3 hB1
  go_enter Try.func10, Try.ntmps10
  go_wp2_with (with_reducible refine stop_load 29 ?_)
  refine Stop.mk (wpList_load_cells rfl rfl rfl hld ?_)
  clear hld hw1 hwE c2 c3 f2' f3'
  go_wp2_with fail
  refine hEach.out.mono ?_
  rintro e w5 ⟨rfl, hb5⟩
  have hfin := Lib.hid (hBEh.out.trans (hb5.mono hBEh.out.size))
  clear hEach hb5
  go_wp2
  go_ret2
  exact ⟨rfl, hfin.out⟩
set_option maxRecDepth 100000 in
set_option maxHeartbeats 8000000 in
theorem Free_bad (w : World) {gt : Nat} {m f n b : Int} (hm : I64 m) (hf : I64 f) (hn : I64 n) (hb : 0 ≤ b ∧ b ≤ 100000) (hr : rightP m f n b = false)
    (hblk : ∀ W, Below w.heap.size w W → Calls Try.prog 68 #[.pointer (some ⟨gt, 0, none⟩)] W (Ans W (.int .i64 b))) :
    Calls Try.prog 12 #[.agg #[.int .i64 m, .int .i64 f, .int .i64 n], .pointer (some ⟨gt, 0, none⟩)] w fun e w' => e = .returned (.tuple #[.int .i64 0, .int .i64 1]) ∧ Below w.heap.size w w' := by
  obtain ⟨w1, hw1⟩ : ∃ w1, (w.alloc (.cells #[.int .i64 m, .int .i64 f, .int .i64 n] 29)).alloc (.cells #[.int .i64 0] 3) = w1 := ⟨_, rfl⟩
  have e1 : (w.alloc (.cells #[.int .i64 m, .int .i64 f, .int .i64 n] 29)).heap.size = w.heap.size + 1 := World.size_alloc _ _
  have hB1 : Below w.heap.size w w1 := by
    rw [← hw1]
    exact ((Below.refl _ _).alloc (Nat.le_refl _) _).alloc (by simp) _
  have b0 : Blk w1 w.heap.size 29 #[.int .i64 m, .int .i64 f, .int .i64 n] := by
    rw [← hw1]; exact (Blk.new w _ _).alloc _
  have b1 : Blk w1 (w.heap.size + 1) 3 #[.int .i64 0] := by
    rw [← hw1, ← e1]; exact Blk.new _ _ _
  have c1 : w1.cell? ⟨w.heap.size + 1, 0, none⟩ = some (.int .i64 0) := b1.cell 0
  have f1' := b1.frozen 0
  have c2 : w1.cell? ⟨w.heap.size, 2, none⟩ = some (.int .i64 n) := b0.cell 2
  have b0E := b0.farN (b := w.heap.size + 1) (by omega) 0 (.int .i64 n)
  have b1E : Blk (w1.setCell ⟨w.heap.size + 1, 0, none⟩ (.int .i64 n)) (w.heap.size + 1) 3 #[.int .i64 n] := b1.set_ 0 _
  have hBE := hB1.setCell (p := ⟨w.heap.size + 1, 0, none⟩) (show w.heap.size ≤ w.heap.size + 1 by omega) (.int .i64 n)
  obtain ⟨wE, hwE⟩ : ∃ wE, w1.setCell ⟨w.heap.size + 1, 0, none⟩ (.int .i64 n) = wE := ⟨_, rfl⟩
  rw [hwE] at b0E b1E hBE
  have hld := load_pool b0E
  have hsE := b1E.lt
  have hEach := Lib.hid (each_bad wE (gt := gt) hm hf hn hb hr (.func (.func 41) #[] #[.pointer (some ⟨w.heap.size + 1, 0, none⟩)]) (fun W hb => hblk W (hBE.trans (hb.mono hBE.size))))
  have hBEh := Lib.hid hBE
  clear hblk hr b0 b1 b0E b1E hBE e1 hB1
  go_enter Try.func12, Try.ntmps12
  go_wp2_with (with_reducible refine stop_load 29 ?_)
  refine Stop.mk (wpList_load_cells rfl rfl rfl hld ?_)
  clear hld hw1 hwE c1 f1' c2
  go_wp2_with fail
  refine hEach.out.mono ?_
  rintro e w5 ⟨rfl, hb5⟩
  have hfin := Lib.hid (hBEh.out.trans (hb5.mono hBEh.out.size))
  clear hEach hb5
  go_wp2
  go_ret2
  exact ⟨rfl, hfin.out⟩
end Go.Proofs.Ytefbmbfhhhjgkaa
namespace Go.Proofs.Ytefbmbfhhhjgkaa
open Go.RowKit
/-- The document's pool: its cells, and the row of what is taken. -/
structure RP (w : World) (gr gb cb : Nat) (m f : Int) (n : Nat) (T : Nat → Bool) : Prop where
  blk : Blk w gr 41 #[.int .i64 m, .int .i64 f, .int .i64 (n : Int), .slice (some ⟨gb, 0, none⟩) n cb]
  row : ∃ cs, Blk w gb 4 cs ∧ ∀ i, i < n → cs[i]? = some (.bool (T i))
theorem RP.below {w w' : World} {gr gb cb n : Nat} {m f : Int} {T : Nat → Bool} (h : RP w gr gb cb m f n T) (hb : Below w.heap.size w w') : RP w' gr gb cb m f n T := by
  obtain ⟨cs, h1, h2⟩ := h.row
  exact ⟨blk_below h.blk hb, cs, blk_below h1 hb, h2⟩
theorem RP.keep {w w' : World} {gr gb cb n : Nat} {m f : Int} {T : Nat → Bool} {X : Nat → Prop} (h : RP w gr gb cb m f n T) (hk : KeepX X w w') (h1 : X gr) (h2 : X gb) : RP w' gr gb cb m f n T := by
  obtain ⟨cs, q1, q2⟩ := h.row
  exact ⟨hk.blk h.blk h1, cs, hk.blk q1 h2, q2⟩
theorem RP.at_ {w : World} {gr gb cb n : Nat} {m f : Int} {T : Nat → Bool} (h : RP w gr gb cb m f n T) {i : Nat} (hi : i < n) : w.cell? ⟨gb, i, none⟩ = some (.bool (T i)) := by
  obtain ⟨cs, q1, q2⟩ := h.row
  exact (q1.cell i).trans (q2 i hi)
theorem RP.ne {w : World} {gr gb cb n : Nat} {m f : Int} {T : Nat → Bool} (h : RP w gr gb cb m f n T) : gr ≠ gb := by
  obtain ⟨cs, q1, _⟩ := h.row
  exact h.blk.ne_ q1 (by decide)
theorem RP.frozen {w : World} {gr gb cb n : Nat} {m f : Int} {T : Nat → Bool} (h : RP w gr gb cb m f n T) (i : Nat) : w.frozen? ⟨gb, i, none⟩ = false := by
  obtain ⟨cs, q1, _⟩ := h.row
  exact q1.frozen i
/-- One number set. -/
theorem RP.set {w : World} {gr gb cb n : Nat} {m f : Int} {T : Nat → Bool} (h : RP w gr gb cb m f n T) {i : Nat} (hi : i < n) (b : Bool) : RP (w.setCell ⟨gb, i, none⟩ (.bool b)) gr gb cb m f n (fun j => if j = i then b else T j) := by
  obtain ⟨cs, q1, q2⟩ := h.row
  refine ⟨h.blk.far (p := ⟨gb, i, none⟩) (fun e => h.ne e) _, _, q1.set_ i _, fun j hj => ?_⟩
  have hl : i < cs.size := by
    have := q2 i hi
    rcases Nat.lt_or_ge i cs.size with h | h
    · exact h
    · rw [Array.getElem?_eq_none h] at this; cases this
  rw [Array.getElem?_setIfInBounds]
  by_cases e : i = j
  · subst e
    rw [if_pos rfl, if_pos rfl, if_pos hl]
  · rw [if_neg e, if_neg (fun h => e h.symm)]
    exact q2 j hj
theorem RP.chg {w : World} {gr gb cb n : Nat} {m f : Int} {T : Nat → Bool} (_h : RP w gr gb cb m f n T) (i : Nat) (b : Bool) : Chg (fun j => j = gb) w (w.setCell ⟨gb, i, none⟩ (.bool b)) :=
  (Chg.refl (fun j => j = gb) w).setCell (p := ⟨gb, i, none⟩) (fun _ => rfl) _
set_option maxRecDepth 10000 in
set_option maxHeartbeats 4000000 in
theorem rIs_calls (w : World) {gr : Nat} {m f n nn : Int} {v : Value} (hb : Blk w gr 41 #[.int .i64 m, .int .i64 f, .int .i64 n, v]) (hf : 0 ≤ f) (hnn : I64 nn) :
    Calls Try.prog 24 #[.pointer (some ⟨gr, 0, none⟩), .int .i64 nn] w (RightTo w (decide (f ≤ nn ∧ nn - f < n))) := by
  have c1 : w.cell? ⟨gr, 1, none⟩ = some (.int .i64 f) := hb.cell 1
  have c2 : w.cell? ⟨gr, 2, none⟩ = some (.int .i64 n) := hb.cell 2
  by_cases h : f ≤ nn
  · have d1 : decide (f ≤ nn) = true := decide_eq_true h
    have hw : IntKind.i64.wrap (nn - f) = nn - f := by have := hnn.1; have := hnn.2; rw [IntKind.wrap_i64]; omega
    have e : decide (f ≤ nn ∧ nn - f < n) = decide (nn - f < n) := decide_eq_decide.2 ⟨fun h => h.2, fun q => ⟨h, q⟩⟩
    rw [e]
    clear hb hf hnn h e
    go_enter Try.func24, Try.ntmps24
    go_wp2_with fail
    go_quiet (fail)
    go_wp2
    go_ret
    exact ⟨rfl, below_drewN (Below.refl _ _) _⟩
  · have d1 : decide (f ≤ nn) = false := decide_eq_false h
    rw [decide_eq_false (fun q => h q.1)]
    clear hb hf hnn h
    go_enter Try.func24, Try.ntmps24
    go_wp2_with fail
    go_quiet (fail)
    go_wp2
    go_ret
    exact ⟨rfl, below_drewN (Below.refl _ _) _⟩
set_option maxRecDepth 10000 in
set_option maxHeartbeats 4000000 in
theorem rMaps_calls (w : World) {gr : Nat} {m f n : Int} {v : Value} (hb : Blk w gr 41 #[.int .i64 m, .int .i64 f, .int .i64 n, v]) (hn : I64 n) :
    Calls Try.prog 17 #[.pointer (some ⟨gr, 0, none⟩)] w (Ans w (.int .i64 (mapsP n))) := by
  have c2 := hb.cell 2
  obtain ⟨n1, n2⟩ := hn
  clear hb
  unfold mapsP
  by_cases h : n < 1
  · rw [if_pos h]
    go_enter Try.func17, Try.ntmps17
    go_wp2
    go_ret
    exact ⟨rfl, rfl⟩
  · rw [if_neg h]
    have hq : Int.tdiv n 4096 = n / 4096 := Int.tdiv_eq_ediv_of_nonneg (by omega)
    have hr : Int.tmod n 4096 = n % 4096 := Int.tmod_eq_emod_of_nonneg (by omega)
    by_cases h2 : 0 < n % 4096
    · have e : (n - 1) / 4096 + 1 = n / 4096 + 1 := by omega
      have hw : IntKind.i64.wrap (n / 4096 + 1) = n / 4096 + 1 := by rw [IntKind.wrap_i64]; omega
      rw [e]
      go_enter Try.func17, Try.ntmps17
      go_wp2
      go_ret
      exact ⟨rfl, rfl⟩
    · have e : (n - 1) / 4096 + 1 = n / 4096 := by omega
      rw [e]
      go_enter Try.func17, Try.ntmps17
      go_wp2
      go_ret
      exact ⟨rfl, rfl⟩
set_option maxRecDepth 10000 in
set_option maxHeartbeats 8000000 in
theorem rRight_no (w : World) {gr : Nat} {m f n b : Int} {v : Value} (hb : Blk w gr 41 #[.int .i64 m, .int .i64 f, .int .i64 n, v]) (h : ¬ (0 ≤ m ∧ 0 ≤ f ∧ f ≤ 1073741824 ∧ 1 ≤ n ∧ n ≤ 16384)) :
    Calls Try.prog 15 #[.pointer (some ⟨gr, 0, none⟩), .int .i64 b] w (RightTo w false) := by
  have c0 : w.cell? ⟨gr, 0, none⟩ = some (.int .i64 m) := hb.cell 0
  have c1 : w.cell? ⟨gr, 1, none⟩ = some (.int .i64 f) := hb.cell 1
  have c2 : w.cell? ⟨gr, 2, none⟩ = some (.int .i64 n) := hb.cell 2
  have e1 : decide (0 ≤ m) = true ∨ decide (0 ≤ m) = false := by by_cases h : 0 ≤ m <;> simp [h]
  have e2 : decide (0 ≤ f) = true ∨ decide (0 ≤ f) = false := by by_cases h : 0 ≤ f <;> simp [h]
  have e3 : decide (f ≤ 1073741824) = true ∨ decide (f ≤ 1073741824) = false := by by_cases h : f ≤ 1073741824 <;> simp [h]
  have e4 : decide (1 ≤ n) = true ∨ decide (1 ≤ n) = false := by by_cases h : 1 ≤ n <;> simp [h]
  have e5 : decide (n ≤ 16384) = true ∨ decide (n ≤ 16384) = false := by by_cases h : n ≤ 16384 <;> simp [h]
  clear hb
  rcases e1 with e1 | e1
  · rcases e2 with e2 | e2
    · rcases e3 with e3 | e3
      · rcases e4 with e4 | e4
        · rcases e5 with e5 | e5
          · exact absurd ⟨of_decide_eq_true e1, of_decide_eq_true e2, of_decide_eq_true e3, of_decide_eq_true e4, of_decide_eq_true e5⟩ h
          · clear h
            go_enter Try.func15, Try.ntmps15
            go_wp2_with fail
            go_quiet (fail)
            go_wp2
            go_ret
            exact ⟨rfl, below_drewN (Below.refl _ _) _⟩
        · clear h e5
          go_enter Try.func15, Try.ntmps15
          go_wp2_with fail
          go_quiet (fail)
          go_wp2
          go_ret
          exact ⟨rfl, below_drewN (Below.refl _ _) _⟩
      · clear h e4 e5
        go_enter Try.func15, Try.ntmps15
        go_wp2_with fail
        go_quiet (fail)
        go_wp2
        go_ret
        exact ⟨rfl, below_drewN (Below.refl _ _) _⟩
    · clear h e3 e4 e5
      go_enter Try.func15, Try.ntmps15
      go_wp2_with fail
      go_quiet (fail)
      go_wp2
      go_ret
      exact ⟨rfl, below_drewN (Below.refl _ _) _⟩
  · clear h e2 e3 e4 e5
    go_enter Try.func15, Try.ntmps15
    go_wp2_with fail
    go_quiet (fail)
    go_wp2
    go_ret
    exact ⟨rfl, below_drewN (Below.refl _ _) _⟩
set_option maxRecDepth 10000 in
set_option maxHeartbeats 8000000 in
theorem rRight_in (w : World) {gr : Nat} {m f n b : Int} {v : Value} (hb : Blk w gr 41 #[.int .i64 m, .int .i64 f, .int .i64 n, v]) (hb4 : 4 ≤ b ∧ b ≤ 100000) (h : 0 ≤ m ∧ 0 ≤ f ∧ f ≤ 1073741824 ∧ 1 ≤ n ∧ n ≤ 16384) :
    Calls Try.prog 15 #[.pointer (some ⟨gr, 0, none⟩), .int .i64 b] w (RightTo w (decide (m ≤ b - mapsP n))) := by
  have hbh := Lib.hid hb
  obtain ⟨h1, h2, h3, h4, h5⟩ := h
  have hmp : 0 ≤ mapsP n ∧ mapsP n ≤ 4 := by unfold mapsP; rw [if_neg (by omega)]; omega
  have hM := Lib.hid (fun (W : World) (hW : Blk W gr 41 #[.int .i64 m, .int .i64 f, .int .i64 n, v]) => rMaps_calls W hW ⟨by omega, by omega⟩)
  obtain ⟨K0, hK0⟩ : ∃ K0, Hid (mapsP n = K0) := ⟨_, Lib.hid rfl⟩
  rw [hK0.out] at hmp hM ⊢
  have d1 : decide (0 ≤ m) = true := decide_eq_true h1
  have d2 : decide (0 ≤ f) = true := decide_eq_true h2
  have d3 : decide (f ≤ 1073741824) = true := decide_eq_true h3
  have d4 : decide (1 ≤ n) = true := decide_eq_true h4
  have d5 : decide (n ≤ 16384) = true := decide_eq_true h5
  have d6 : decide (K0 ≤ b) = true := decide_eq_true (by omega)
  have hwp : IntKind.i64.wrap (b - K0) = b - K0 := by rw [IntKind.wrap_i64]; omega
  clear hK0 hb hmp hb4 h1 h2 h3 h4 h5
  go_enter Try.func15, Try.ntmps15
  go_wp2_with fail
  refine wp_mixs (fun W => Blk W gr 41 #[.int .i64 m, .int .i64 f, .int .i64 n, v]) [35, 46] (by kernel_rfl) (by kernel_rfl) (by kernel_rfl) (by decide) (show Blk w.drew _ _ _ from hbh.out) ?_
  iterate 6 ((first | refine mixsq rfl rfl 0 (by decide +kernel) ?_ (fun w' hw' => Or.inl ?_) (fun K hK => ?_) | refine mixsq rfl rfl 1 (by decide +kernel) ?_ (fun w' hw' => Or.inl ?_) (fun K hK => ?_) | refine mixsq rfl rfl 2 (by decide +kernel) ?_ (fun w' hw' => Or.inl ?_) (fun K hK => ?_) | refine mixsq rfl rfl 3 (by decide +kernel) ?_ (fun w' hw' => Or.inl ?_) (fun K hK => ?_) | refine mixsq rfl rfl 4 (by decide +kernel) ?_ (fun w' hw' => Or.inl ?_) (fun K hK => ?_) | refine mixsq rfl rfl 5 (by decide +kernel) ?_ (fun w' hw' => Or.inl ?_) (fun K hK => ?_) | refine mixsq rfl rfl 6 (by decide +kernel) ?_ (fun w' hw' => Or.inl ?_) (fun K hK => ?_) | refine mixsq rfl rfl 7 (by decide +kernel) ?_ (fun w' hw' => Or.inl ?_) (fun K hK => ?_)); rotate_left; (focus (have hc : Blk w' gr 41 #[.int .i64 m, .int .i64 f, .int .i64 n, v] := hw'; have c0 := hc.cell 0; have c1 := hc.cell 1; have c2 := hc.cell 2; go_simp; rfl)); go_simp; refine hK _ ?_; clear hK K)
  iterate 5 ((first | refine mixsq_yes rfl (by first | rfl | kernel_rfl) 0 (by decide +kernel) ?_ (fun w' hw' => Or.inl ?_) (fun K hK => ?_) | refine mixsq_yes rfl (by first | rfl | kernel_rfl) 1 (by decide +kernel) ?_ (fun w' hw' => Or.inl ?_) (fun K hK => ?_) | refine mixsq_yes rfl (by first | rfl | kernel_rfl) 2 (by decide +kernel) ?_ (fun w' hw' => Or.inl ?_) (fun K hK => ?_) | refine mixsq_yes rfl (by first | rfl | kernel_rfl) 3 (by decide +kernel) ?_ (fun w' hw' => Or.inl ?_) (fun K hK => ?_) | refine mixsq_yes rfl (by first | rfl | kernel_rfl) 4 (by decide +kernel) ?_ (fun w' hw' => Or.inl ?_) (fun K hK => ?_) | refine mixsq_yes rfl (by first | rfl | kernel_rfl) 5 (by decide +kernel) ?_ (fun w' hw' => Or.inl ?_) (fun K hK => ?_) | refine mixsq_yes rfl (by first | rfl | kernel_rfl) 6 (by decide +kernel) ?_ (fun w' hw' => Or.inl ?_) (fun K hK => ?_) | refine mixsq_yes rfl (by first | rfl | kernel_rfl) 7 (by decide +kernel) ?_ (fun w' hw' => Or.inl ?_) (fun K hK => ?_)); rotate_left; (focus (have hc : Blk w' gr 41 #[.int .i64 m, .int .i64 f, .int .i64 n, v] := hw'; have c0 := hc.cell 0; have c1 := hc.cell 1; have c2 := hc.cell 2; go_simp; rfl)); go_simp; refine hK _ ?_; clear hK K)
  iterate 2 ((first | refine mixsq rfl rfl 0 (by decide +kernel) ?_ (fun w' hw' => Or.inl ?_) (fun K hK => ?_) | refine mixsq rfl rfl 1 (by decide +kernel) ?_ (fun w' hw' => Or.inl ?_) (fun K hK => ?_) | refine mixsq rfl rfl 2 (by decide +kernel) ?_ (fun w' hw' => Or.inl ?_) (fun K hK => ?_) | refine mixsq rfl rfl 3 (by decide +kernel) ?_ (fun w' hw' => Or.inl ?_) (fun K hK => ?_) | refine mixsq rfl rfl 4 (by decide +kernel) ?_ (fun w' hw' => Or.inl ?_) (fun K hK => ?_) | refine mixsq rfl rfl 5 (by decide +kernel) ?_ (fun w' hw' => Or.inl ?_) (fun K hK => ?_) | refine mixsq rfl rfl 6 (by decide +kernel) ?_ (fun w' hw' => Or.inl ?_) (fun K hK => ?_) | refine mixsq rfl rfl 7 (by decide +kernel) ?_ (fun w' hw' => Or.inl ?_) (fun K hK => ?_)); rotate_left; (focus (go_simp; rfl)); go_simp; refine hK _ ?_; clear hK K)
  iterate 5 ((first | refine mixsq_yes rfl (by first | rfl | kernel_rfl) 0 (by decide +kernel) ?_ (fun w' hw' => Or.inl ?_) (fun K hK => ?_) | refine mixsq_yes rfl (by first | rfl | kernel_rfl) 1 (by decide +kernel) ?_ (fun w' hw' => Or.inl ?_) (fun K hK => ?_) | refine mixsq_yes rfl (by first | rfl | kernel_rfl) 2 (by decide +kernel) ?_ (fun w' hw' => Or.inl ?_) (fun K hK => ?_) | refine mixsq_yes rfl (by first | rfl | kernel_rfl) 3 (by decide +kernel) ?_ (fun w' hw' => Or.inl ?_) (fun K hK => ?_) | refine mixsq_yes rfl (by first | rfl | kernel_rfl) 4 (by decide +kernel) ?_ (fun w' hw' => Or.inl ?_) (fun K hK => ?_) | refine mixsq_yes rfl (by first | rfl | kernel_rfl) 5 (by decide +kernel) ?_ (fun w' hw' => Or.inl ?_) (fun K hK => ?_) | refine mixsq_yes rfl (by first | rfl | kernel_rfl) 6 (by decide +kernel) ?_ (fun w' hw' => Or.inl ?_) (fun K hK => ?_) | refine mixsq_yes rfl (by first | rfl | kernel_rfl) 7 (by decide +kernel) ?_ (fun w' hw' => Or.inl ?_) (fun K hK => ?_)); rotate_left; (focus (have hc : Blk w' gr 41 #[.int .i64 m, .int .i64 f, .int .i64 n, v] := hw'; have c0 := hc.cell 0; have c1 := hc.cell 1; have c2 := hc.cell 2; go_simp; rfl)); go_simp; refine hK _ ?_; clear hK K)
  iterate 2 ((first | refine mixsq rfl rfl 0 (by decide +kernel) ?_ (fun w' hw' => Or.inl ?_) (fun K hK => ?_) | refine mixsq rfl rfl 1 (by decide +kernel) ?_ (fun w' hw' => Or.inl ?_) (fun K hK => ?_) | refine mixsq rfl rfl 2 (by decide +kernel) ?_ (fun w' hw' => Or.inl ?_) (fun K hK => ?_) | refine mixsq rfl rfl 3 (by decide +kernel) ?_ (fun w' hw' => Or.inl ?_) (fun K hK => ?_) | refine mixsq rfl rfl 4 (by decide +kernel) ?_ (fun w' hw' => Or.inl ?_) (fun K hK => ?_) | refine mixsq rfl rfl 5 (by decide +kernel) ?_ (fun w' hw' => Or.inl ?_) (fun K hK => ?_) | refine mixsq rfl rfl 6 (by decide +kernel) ?_ (fun w' hw' => Or.inl ?_) (fun K hK => ?_) | refine mixsq rfl rfl 7 (by decide +kernel) ?_ (fun w' hw' => Or.inl ?_) (fun K hK => ?_)); rotate_left; (focus (go_simp; rfl)); go_simp; refine hK _ ?_; clear hK K)
  iterate 5 ((first | refine mixsq_yes rfl (by first | rfl | kernel_rfl) 0 (by decide +kernel) ?_ (fun w' hw' => Or.inl ?_) (fun K hK => ?_) | refine mixsq_yes rfl (by first | rfl | kernel_rfl) 1 (by decide +kernel) ?_ (fun w' hw' => Or.inl ?_) (fun K hK => ?_) | refine mixsq_yes rfl (by first | rfl | kernel_rfl) 2 (by decide +kernel) ?_ (fun w' hw' => Or.inl ?_) (fun K hK => ?_) | refine mixsq_yes rfl (by first | rfl | kernel_rfl) 3 (by decide +kernel) ?_ (fun w' hw' => Or.inl ?_) (fun K hK => ?_) | refine mixsq_yes rfl (by first | rfl | kernel_rfl) 4 (by decide +kernel) ?_ (fun w' hw' => Or.inl ?_) (fun K hK => ?_) | refine mixsq_yes rfl (by first | rfl | kernel_rfl) 5 (by decide +kernel) ?_ (fun w' hw' => Or.inl ?_) (fun K hK => ?_) | refine mixsq_yes rfl (by first | rfl | kernel_rfl) 6 (by decide +kernel) ?_ (fun w' hw' => Or.inl ?_) (fun K hK => ?_) | refine mixsq_yes rfl (by first | rfl | kernel_rfl) 7 (by decide +kernel) ?_ (fun w' hw' => Or.inl ?_) (fun K hK => ?_)); rotate_left; (focus (have hc : Blk w' gr 41 #[.int .i64 m, .int .i64 f, .int .i64 n, v] := hw'; have c0 := hc.cell 0; have c1 := hc.cell 1; have c2 := hc.cell 2; go_simp; rfl)); go_simp; refine hK _ ?_; clear hK K)
  iterate 2 ((first | refine mixsq rfl rfl 0 (by decide +kernel) ?_ (fun w' hw' => Or.inl ?_) (fun K hK => ?_) | refine mixsq rfl rfl 1 (by decide +kernel) ?_ (fun w' hw' => Or.inl ?_) (fun K hK => ?_) | refine mixsq rfl rfl 2 (by decide +kernel) ?_ (fun w' hw' => Or.inl ?_) (fun K hK => ?_) | refine mixsq rfl rfl 3 (by decide +kernel) ?_ (fun w' hw' => Or.inl ?_) (fun K hK => ?_) | refine mixsq rfl rfl 4 (by decide +kernel) ?_ (fun w' hw' => Or.inl ?_) (fun K hK => ?_) | refine mixsq rfl rfl 5 (by decide +kernel) ?_ (fun w' hw' => Or.inl ?_) (fun K hK => ?_) | refine mixsq rfl rfl 6 (by decide +kernel) ?_ (fun w' hw' => Or.inl ?_) (fun K hK => ?_) | refine mixsq rfl rfl 7 (by decide +kernel) ?_ (fun w' hw' => Or.inl ?_) (fun K hK => ?_)); rotate_left; (focus (go_simp; rfl)); go_simp; refine hK _ ?_; clear hK K)
  iterate 5 ((first | refine mixsq_yes rfl (by first | rfl | kernel_rfl) 0 (by decide +kernel) ?_ (fun w' hw' => Or.inl ?_) (fun K hK => ?_) | refine mixsq_yes rfl (by first | rfl | kernel_rfl) 1 (by decide +kernel) ?_ (fun w' hw' => Or.inl ?_) (fun K hK => ?_) | refine mixsq_yes rfl (by first | rfl | kernel_rfl) 2 (by decide +kernel) ?_ (fun w' hw' => Or.inl ?_) (fun K hK => ?_) | refine mixsq_yes rfl (by first | rfl | kernel_rfl) 3 (by decide +kernel) ?_ (fun w' hw' => Or.inl ?_) (fun K hK => ?_) | refine mixsq_yes rfl (by first | rfl | kernel_rfl) 4 (by decide +kernel) ?_ (fun w' hw' => Or.inl ?_) (fun K hK => ?_) | refine mixsq_yes rfl (by first | rfl | kernel_rfl) 5 (by decide +kernel) ?_ (fun w' hw' => Or.inl ?_) (fun K hK => ?_) | refine mixsq_yes rfl (by first | rfl | kernel_rfl) 6 (by decide +kernel) ?_ (fun w' hw' => Or.inl ?_) (fun K hK => ?_) | refine mixsq_yes rfl (by first | rfl | kernel_rfl) 7 (by decide +kernel) ?_ (fun w' hw' => Or.inl ?_) (fun K hK => ?_)); rotate_left; (focus (have hc : Blk w' gr 41 #[.int .i64 m, .int .i64 f, .int .i64 n, v] := hw'; have c0 := hc.cell 0; have c1 := hc.cell 1; have c2 := hc.cell 2; go_simp; rfl)); go_simp; refine hK _ ?_; clear hK K)
  iterate 2 ((first | refine mixsq rfl rfl 0 (by decide +kernel) ?_ (fun w' hw' => Or.inl ?_) (fun K hK => ?_) | refine mixsq rfl rfl 1 (by decide +kernel) ?_ (fun w' hw' => Or.inl ?_) (fun K hK => ?_) | refine mixsq rfl rfl 2 (by decide +kernel) ?_ (fun w' hw' => Or.inl ?_) (fun K hK => ?_) | refine mixsq rfl rfl 3 (by decide +kernel) ?_ (fun w' hw' => Or.inl ?_) (fun K hK => ?_) | refine mixsq rfl rfl 4 (by decide +kernel) ?_ (fun w' hw' => Or.inl ?_) (fun K hK => ?_) | refine mixsq rfl rfl 5 (by decide +kernel) ?_ (fun w' hw' => Or.inl ?_) (fun K hK => ?_) | refine mixsq rfl rfl 6 (by decide +kernel) ?_ (fun w' hw' => Or.inl ?_) (fun K hK => ?_) | refine mixsq rfl rfl 7 (by decide +kernel) ?_ (fun w' hw' => Or.inl ?_) (fun K hK => ?_)); rotate_left; (focus (go_simp; rfl)); go_simp; refine hK _ ?_; clear hK K)
  (first | refine mixsq_yes rfl (by first | rfl | kernel_rfl) 0 (by decide +kernel) ?_ (fun w' hw' => Or.inl ?_) (fun K hK => ?_) | refine mixsq_yes rfl (by first | rfl | kernel_rfl) 1 (by decide +kernel) ?_ (fun w' hw' => Or.inl ?_) (fun K hK => ?_) | refine mixsq_yes rfl (by first | rfl | kernel_rfl) 2 (by decide +kernel) ?_ (fun w' hw' => Or.inl ?_) (fun K hK => ?_) | refine mixsq_yes rfl (by first | rfl | kernel_rfl) 3 (by decide +kernel) ?_ (fun w' hw' => Or.inl ?_) (fun K hK => ?_) | refine mixsq_yes rfl (by first | rfl | kernel_rfl) 4 (by decide +kernel) ?_ (fun w' hw' => Or.inl ?_) (fun K hK => ?_) | refine mixsq_yes rfl (by first | rfl | kernel_rfl) 5 (by decide +kernel) ?_ (fun w' hw' => Or.inl ?_) (fun K hK => ?_) | refine mixsq_yes rfl (by first | rfl | kernel_rfl) 6 (by decide +kernel) ?_ (fun w' hw' => Or.inl ?_) (fun K hK => ?_) | refine mixsq_yes rfl (by first | rfl | kernel_rfl) 7 (by decide +kernel) ?_ (fun w' hw' => Or.inl ?_) (fun K hK => ?_)); rotate_left; (focus (have hc : Blk w' gr 41 #[.int .i64 m, .int .i64 f, .int .i64 n, v] := hw'; have c0 := hc.cell 0; have c1 := hc.cell 1; have c2 := hc.cell 2; go_simp; rfl)); go_simp; refine hK _ ?_; clear hK K
  refine mixsl_yes rfl (by first | rfl | kernel_rfl) (fun K hK => ?_)
  go_simp
  refine (hM.out w.drew hbh.out).mono ?_
  rintro e w2 ⟨rfl, rfl⟩
  refine hK (fun W => Blk W gr 41 #[.int .i64 m, .int .i64 f, .int .i64 n, v]) _ _ (fun _ => ⟨hbh.out, fun _ => hbh.out⟩) ?_
  clear hK K
  iterate 2 ((first | refine mixsq_yes rfl (by first | rfl | kernel_rfl) 0 (by decide +kernel) ?_ (fun w' hw' => Or.inl ?_) (fun K hK => ?_) | refine mixsq_yes rfl (by first | rfl | kernel_rfl) 1 (by decide +kernel) ?_ (fun w' hw' => Or.inl ?_) (fun K hK => ?_) | refine mixsq_yes rfl (by first | rfl | kernel_rfl) 2 (by decide +kernel) ?_ (fun w' hw' => Or.inl ?_) (fun K hK => ?_) | refine mixsq_yes rfl (by first | rfl | kernel_rfl) 3 (by decide +kernel) ?_ (fun w' hw' => Or.inl ?_) (fun K hK => ?_) | refine mixsq_yes rfl (by first | rfl | kernel_rfl) 4 (by decide +kernel) ?_ (fun w' hw' => Or.inl ?_) (fun K hK => ?_) | refine mixsq_yes rfl (by first | rfl | kernel_rfl) 5 (by decide +kernel) ?_ (fun w' hw' => Or.inl ?_) (fun K hK => ?_) | refine mixsq_yes rfl (by first | rfl | kernel_rfl) 6 (by decide +kernel) ?_ (fun w' hw' => Or.inl ?_) (fun K hK => ?_) | refine mixsq_yes rfl (by first | rfl | kernel_rfl) 7 (by decide +kernel) ?_ (fun w' hw' => Or.inl ?_) (fun K hK => ?_)); rotate_left; (focus (go_simp; rfl)); go_simp; refine hK _ ?_; clear hK K)
  iterate 2 ((first | refine mixsq rfl rfl 0 (by decide +kernel) ?_ (fun w' hw' => Or.inl ?_) (fun K hK => ?_) | refine mixsq rfl rfl 1 (by decide +kernel) ?_ (fun w' hw' => Or.inl ?_) (fun K hK => ?_) | refine mixsq rfl rfl 2 (by decide +kernel) ?_ (fun w' hw' => Or.inl ?_) (fun K hK => ?_) | refine mixsq rfl rfl 3 (by decide +kernel) ?_ (fun w' hw' => Or.inl ?_) (fun K hK => ?_) | refine mixsq rfl rfl 4 (by decide +kernel) ?_ (fun w' hw' => Or.inl ?_) (fun K hK => ?_) | refine mixsq rfl rfl 5 (by decide +kernel) ?_ (fun w' hw' => Or.inl ?_) (fun K hK => ?_) | refine mixsq rfl rfl 6 (by decide +kernel) ?_ (fun w' hw' => Or.inl ?_) (fun K hK => ?_) | refine mixsq rfl rfl 7 (by decide +kernel) ?_ (fun w' hw' => Or.inl ?_) (fun K hK => ?_)); rotate_left; (focus (go_simp; rfl)); go_simp; refine hK _ ?_; clear hK K)
  iterate 6 ((first | refine mixsq_yes rfl (by first | rfl | kernel_rfl) 0 (by decide +kernel) ?_ (fun w' hw' => Or.inl ?_) (fun K hK => ?_) | refine mixsq_yes rfl (by first | rfl | kernel_rfl) 1 (by decide +kernel) ?_ (fun w' hw' => Or.inl ?_) (fun K hK => ?_) | refine mixsq_yes rfl (by first | rfl | kernel_rfl) 2 (by decide +kernel) ?_ (fun w' hw' => Or.inl ?_) (fun K hK => ?_) | refine mixsq_yes rfl (by first | rfl | kernel_rfl) 3 (by decide +kernel) ?_ (fun w' hw' => Or.inl ?_) (fun K hK => ?_) | refine mixsq_yes rfl (by first | rfl | kernel_rfl) 4 (by decide +kernel) ?_ (fun w' hw' => Or.inl ?_) (fun K hK => ?_) | refine mixsq_yes rfl (by first | rfl | kernel_rfl) 5 (by decide +kernel) ?_ (fun w' hw' => Or.inl ?_) (fun K hK => ?_) | refine mixsq_yes rfl (by first | rfl | kernel_rfl) 6 (by decide +kernel) ?_ (fun w' hw' => Or.inl ?_) (fun K hK => ?_) | refine mixsq_yes rfl (by first | rfl | kernel_rfl) 7 (by decide +kernel) ?_ (fun w' hw' => Or.inl ?_) (fun K hK => ?_)); rotate_left; (focus (have hc : Blk w' gr 41 #[.int .i64 m, .int .i64 f, .int .i64 n, v] := hw'; have c0 := hc.cell 0; have c1 := hc.cell 1; have c2 := hc.cell 2; go_simp; rfl)); go_simp; refine hK _ ?_; clear hK K)
  refine mixsl_yes rfl (by first | rfl | kernel_rfl) (fun K hK => ?_)
  go_simp
  refine (hM.out w.drew hbh.out).mono ?_
  rintro e w2 ⟨rfl, rfl⟩
  refine hK (fun W => Blk W gr 41 #[.int .i64 m, .int .i64 f, .int .i64 n, v]) _ _ (fun _ => ⟨hbh.out, ext_all (fun _ => hbh.out) hbh.out⟩) ?_
  clear hK K
  iterate 2 ((first | refine mixsq_yes rfl (by first | rfl | kernel_rfl) 0 (by decide +kernel) ?_ (fun w' hw' => Or.inl ?_) (fun K hK => ?_) | refine mixsq_yes rfl (by first | rfl | kernel_rfl) 1 (by decide +kernel) ?_ (fun w' hw' => Or.inl ?_) (fun K hK => ?_) | refine mixsq_yes rfl (by first | rfl | kernel_rfl) 2 (by decide +kernel) ?_ (fun w' hw' => Or.inl ?_) (fun K hK => ?_) | refine mixsq_yes rfl (by first | rfl | kernel_rfl) 3 (by decide +kernel) ?_ (fun w' hw' => Or.inl ?_) (fun K hK => ?_) | refine mixsq_yes rfl (by first | rfl | kernel_rfl) 4 (by decide +kernel) ?_ (fun w' hw' => Or.inl ?_) (fun K hK => ?_) | refine mixsq_yes rfl (by first | rfl | kernel_rfl) 5 (by decide +kernel) ?_ (fun w' hw' => Or.inl ?_) (fun K hK => ?_) | refine mixsq_yes rfl (by first | rfl | kernel_rfl) 6 (by decide +kernel) ?_ (fun w' hw' => Or.inl ?_) (fun K hK => ?_) | refine mixsq_yes rfl (by first | rfl | kernel_rfl) 7 (by decide +kernel) ?_ (fun w' hw' => Or.inl ?_) (fun K hK => ?_)); rotate_left; (focus (go_simp; rfl)); go_simp; refine hK _ ?_; clear hK K)
  iterate 2 ((first | refine mixsq rfl rfl 0 (by decide +kernel) ?_ (fun w' hw' => Or.inl ?_) (fun K hK => ?_) | refine mixsq rfl rfl 1 (by decide +kernel) ?_ (fun w' hw' => Or.inl ?_) (fun K hK => ?_) | refine mixsq rfl rfl 2 (by decide +kernel) ?_ (fun w' hw' => Or.inl ?_) (fun K hK => ?_) | refine mixsq rfl rfl 3 (by decide +kernel) ?_ (fun w' hw' => Or.inl ?_) (fun K hK => ?_) | refine mixsq rfl rfl 4 (by decide +kernel) ?_ (fun w' hw' => Or.inl ?_) (fun K hK => ?_) | refine mixsq rfl rfl 5 (by decide +kernel) ?_ (fun w' hw' => Or.inl ?_) (fun K hK => ?_) | refine mixsq rfl rfl 6 (by decide +kernel) ?_ (fun w' hw' => Or.inl ?_) (fun K hK => ?_) | refine mixsq rfl rfl 7 (by decide +kernel) ?_ (fun w' hw' => Or.inl ?_) (fun K hK => ?_)); rotate_left; (focus (go_simp; rfl)); go_simp; refine hK _ ?_; clear hK K)
  refine mixs_nil ?_
  go_wp2
  go_ret
  exact ⟨rfl, (Below.refl _ _).drew⟩
/-- How many are free, by counting. -/
theorem cnt_not (T : Nat → Bool) (n : Nat) : (n : Int) - (cntT T n : Int) = (cntT (fun i => !T i) n : Int) := by
  induction n with
  | zero => rfl
  | succ n ih =>
    rw [cntT_succ, cntT_succ]
    cases T n <;> simp <;> omega
set_option maxRecDepth 10000 in
set_option maxHeartbeats 4000000 in
theorem rFree_calls (w : World) {gr gb cb n : Nat} {m f : Int} {T : Nat → Bool} (h : RP w gr gb cb m f n T) (hn : n ≤ 16384) :
    Calls Try.prog 26 #[.pointer (some ⟨gr, 0, none⟩)] w (Ans w (.int .i64 ((n : Int) - (cntT T n : Int)))) := by
  have c2 := h.blk.cell 2
  have c3 := h.blk.cell 3
  have hh := Lib.hid h
  rw [cnt_not]
  obtain ⟨C, hC⟩ : ∃ C : Nat → Nat, Hid (∀ i, cntT (fun i => !T i) i = C i) := ⟨_, Lib.hid fun _ => rfl⟩
  rw [hC.out]
  have hC0 : C 0 = 0 := by rw [← hC.out]; rfl
  clear h
  go_enter Try.func26, Try.ntmps26
  go_wp2
  go_loopw [4, 3] (fun iv cv wr => w = wr ∧ ∃ i : Nat, i ≤ n ∧ iv = .int .i64 (i : Int) ∧ cv = .int .i64 (C i : Int)) (fun iv _ _ => n - (RowKit.intOf iv).toNat)
  case atStart => exact ⟨rfl, 0, Nat.zero_le _, rfl, by rw [hC0]; rfl⟩
  case round =>
    obtain ⟨rfl, i, hi, rfl, rfl⟩ := hrel
    by_cases hin : i < n
    · have hin' : (i : Int) < (n : Int) := by omega
      have hc := hh.out.at_ hin
      have hs := hC.out (i + 1)
      rw [cntT_succ, hC.out] at hs
      have hci : C i ≤ i := by rw [← hC.out]; exact cntT_le _ _
      cases hT : T i with
      | false =>
        rw [hT] at hc hs
        have hs : C (i + 1) = C i + 1 := hs.symm
        clear hT
        go_wp2
        go_roundw
        case rel => exact ⟨trivial, i + 1, by omega, by go_num, by rw [hs]; go_num⟩
        case measure => simp [RowKit.intOf]; omega
      | true =>
        rw [hT] at hc hs
        have hs : C (i + 1) = C i := hs.symm
        clear hT
        go_wp2
        go_roundw
        case rel => exact ⟨trivial, i + 1, by omega, by go_num, by rw [hs]⟩
        case measure => simp [RowKit.intOf]; omega
    · obtain rfl : i = n := by omega
      have hin' : ¬ (i : Int) < (i : Int) := by omega
      go_wp2
      go_ret
      exact ⟨rfl, rfl⟩
/-- What the document's Take leaves. -/
def RTakeTo (w : World) (gr gb cb : Nat) (m f : Int) (n : Nat) (T : Nat → Bool) (e : Ending) (w' : World) : Prop :=
  (leastG T n 0 = none ∧ e = .returned (.tuple #[.int .i64 0, .int .i64 7]) ∧ w = w') ∨
  (∃ i, leastG T n 0 = some i ∧ e = .returned (.tuple #[.int .i64 (f + (i : Int)), .int .i64 0]) ∧ RP w' gr gb cb m f n (flipT T i) ∧ Chg (fun j => j = gb) w w')
theorem flip_set {T : Nat → Bool} {i : Nat} {b : Bool} (h : T i = !b) : (fun j => if j = i then b else T j) = flipT T i := funext fun j => by
  unfold flipT
  rw [h, Bool.not_not]
set_option maxRecDepth 10000 in
set_option maxHeartbeats 4000000 in
theorem rTake_calls (w : World) {gr gb cb n : Nat} {m f : Int} {T : Nat → Bool} (h : RP w gr gb cb m f n T) (hn : n ≤ 16384) (hf : 0 ≤ f ∧ f ≤ 1073741824) :
    Calls Try.prog 22 #[.pointer (some ⟨gr, 0, none⟩)] w (RTakeTo w gr gb cb m f n T) := by
  have c1 := h.blk.cell 1
  have c2 := h.blk.cell 2
  have c3 := h.blk.cell 3
  have hne := h.ne
  have hh := Lib.hid h
  clear h
  go_enter Try.func22, Try.ntmps22
  go_wp2
  go_loopw [4] (fun iv wr => w = wr ∧ ∃ i : Nat, i ≤ n ∧ iv = .int .i64 (i : Int) ∧ Hid (∀ k, k < i → T k = true)) (fun iv _ => n - (RowKit.intOf iv).toNat)
  case atStart => exact ⟨rfl, 0, Nat.zero_le _, rfl, fun k hk => absurd hk (Nat.not_lt_zero k)⟩
  case round =>
    obtain ⟨rfl, i, hi, rfl, hall⟩ := hrel
    by_cases hin : i < n
    · have hin' : (i : Int) < (n : Int) := by omega
      have hc := hh.out.at_ hin
      cases hT : T i with
      | true =>
        rw [hT] at hc
        have hall2 : Hid (∀ k, k < i + 1 → T k = true) := Lib.hid fun k hk => by
          rcases Nat.lt_or_ge k i with h | h
          · exact hall.out k h
          · rw [show k = i by omega]; exact hT
        clear hT hall
        go_wp2
        go_roundw
        case rel => exact ⟨trivial, i + 1, by omega, by go_num, hall2⟩
        case measure => simp [RowKit.intOf]; omega
      | false =>
        rw [hT] at hc
        have hfz := hh.out.frozen i
        have hset := hh.out.set hin true
        rw [flip_set (b := true) hT] at hset
        have hch := hh.out.chg i true
        have hwr : IntKind.i64.wrap (f + (i : Int)) = f + (i : Int) := by rw [IntKind.wrap_i64]; omega
        have hfin : Hid (RTakeTo w gr gb cb m f n T (.returned (.tuple #[.int .i64 (f + (i : Int)), .int .i64 0])) (w.setCell ⟨gb, i, none⟩ (.bool true))) := Lib.hid (.inr ⟨i, leastG_of (Nat.zero_le _) (by omega) hT (fun k _ hk => hall.out k hk), rfl, hset, hch⟩)
        have c1' : (w.setCell ⟨gb, i, none⟩ (.bool true)).cell? ⟨gr, 1, none⟩ = some (.int .i64 f) := hset.blk.cell 1
        clear hT hall hset hch
        go_wp2
        go_ret2
        exact hfin.out
    · obtain rfl : i = n := by omega
      have hin' : ¬ (i : Int) < (i : Int) := by omega
      have hfin : Hid (RTakeTo w gr gb cb m f i T (.returned (.tuple #[.int .i64 0, .int .i64 7])) w) := Lib.hid (.inl ⟨leastG_all fun k _ hk => hall.out k (by omega), rfl, rfl⟩)
      clear hall
      go_wp2
      go_ret2
      exact hfin.out
set_option maxRecDepth 10000 in
set_option maxHeartbeats 4000000 in
theorem rClear_calls (w : World) {gr n : Nat} {m f : Int} {v : Value} (hb : Blk w gr 41 #[.int .i64 m, .int .i64 f, .int .i64 (n : Int), v]) (hn : n ≤ 16384) :
    Calls Try.prog 21 #[.pointer (some ⟨gr, 0, none⟩)] w fun e w' => e = .returned (.tuple #[]) ∧ ∃ gb, w.heap.size ≤ gb ∧ gb < w'.heap.size ∧ RP w' gr gb n m f n (fun _ => false) ∧ Chg (fun j => j = gr) w w' := by
  obtain ⟨ib, hi0, hz0, hz1, hz2⟩ := info_parts Try.info_bool
  have hmk0 := run_mkr (P := Try.prog) 34 4 ib (.bool false) Try.underlying34 hi0 hz0 rfl hz1 n (by rw [hz2]; omega) (by omega) w
  have hmk : Sem.run Try.prog (Instr.makeSlice 34 (.int .i64 (n : Int)) (.int .i64 (n : Int))) w = .ok (.slice (some ⟨w.heap.size, 0, none⟩) n n) (w.alloc (.cells (bls (List.replicate n false)) 4)) := by
    have e : (List.replicate n (Value.bool false)).toArray = bls (List.replicate n false) := by
      unfold bls; rw [List.map_replicate]
    rw [← e]
    exact hmk0
  have hF : Blk (w.alloc (.cells (bls (List.replicate n false)) 4)) w.heap.size 4 (bls (List.replicate n false)) := Blk.new _ _ _
  have hb1 := hb.alloc (.cells (bls (List.replicate n false)) 4)
  have hc0 : Chg (fun j => j = gr) w (w.alloc (.cells (bls (List.replicate n false)) 4)) := Chg.of_below ((Below.refl _ _).alloc (Nat.le_refl _) _)
  have hne : gr ≠ w.heap.size := Nat.ne_of_lt hb.lt
  have c2 := hb.cell 2
  clear hmk0 hi0 hz0 hz1 hz2 hb
  obtain ⟨gb, hgb⟩ : ∃ gb, w.heap.size = gb := ⟨_, rfl⟩
  rw [hgb] at hF hmk hne
  have hsz : gb < (w.alloc (.cells (bls (List.replicate n false)) 4)).heap.size := hF.lt
  generalize w.alloc (.cells (bls (List.replicate n false)) 4) = w1 at *
  have c3 := hb1.cell 3
  have hfz := hb1.frozen 3
  have hR : RP (w1.setCell ⟨gr, 3, none⟩ (.slice (some ⟨gb, 0, none⟩) n n)) gr gb n m f n (fun _ => false) := ⟨hb1.set_ 3 _, _, hF.far (p := ⟨gr, 3, none⟩) (fun e => hne e.symm) _, fun i hi => by
    rw [bls_at _ _ (by rw [List.length_replicate]; exact hi), List.getD_eq_getElem?_getD, List.getElem?_replicate]
    split <;> rfl⟩
  have hch : Chg (fun j => j = gr) w (w1.setCell ⟨gr, 3, none⟩ (.slice (some ⟨gb, 0, none⟩) n n)) := hc0.setCell (p := ⟨gr, 3, none⟩) (fun _ => rfl) _
  have hsz2 : gb < (w1.setCell ⟨gr, 3, none⟩ (.slice (some ⟨gb, 0, none⟩) n n)).heap.size := by
    obtain ⟨cs, q, _⟩ := hR.row
    exact q.lt
  have hfin := Lib.hid (And.intro hR hch)
  have hszh := Lib.hid hsz2
  have hgbh := Lib.hid hgb
  clear hR hch hF hb1 hc0 hsz hsz2 hgb hne
  go_enter Try.func21, Try.ntmps21
  go_wp2
  go_end0
  exact ⟨rfl, gb, Nat.le_of_eq hgbh.out, hszh.out, hfin.out.1, hfin.out.2⟩
/-- What the document's Give leaves. -/
def RGiveTo (w : World) (gr gb cb : Nat) (m f : Int) (n : Nat) (T : Nat → Bool) (j : Nat) (e : Ending) (w' : World) : Prop :=
  (T j = true ∧ e = .returned (.int .i64 0) ∧ RP w' gr gb cb m f n (flipT T j) ∧ Chg (fun i => i = gb) w w') ∨ (T j = false ∧ e = .returned (.int .i64 1) ∧ Below w.heap.size w w')
set_option maxRecDepth 10000 in
set_option maxHeartbeats 8000000 in
theorem rGive_in (w : World) {gr gb cb n : Nat} {m f : Int} {T : Nat → Bool} (h : RP w gr gb cb m f n T) (hn : n ≤ 16384) (hf : 0 ≤ f ∧ f ≤ 1073741824) {j : Nat} (hj : j < n) :
    Calls Try.prog 23 #[.pointer (some ⟨gr, 0, none⟩), .int .i64 (f + (j : Int))] w (RGiveTo w gr gb cb m f n T j) := by
  have hI := Lib.hid (fun (W : World) (hW : RP W gr gb cb m f n T) => rIs_calls W hW.blk (nn := f + (j : Int)) hf.1 ⟨by omega, by omega⟩)
  rw [decide_eq_true (show f ≤ f + (j : Int) ∧ f + (j : Int) - f < (n : Int) by omega)] at hI
  have hw : IntKind.i64.wrap (f + (j : Int) - f) = (j : Int) := by rw [IntKind.wrap_i64]; omega
  have hj' : (j : Int) < (n : Int) := by omega
  have hh := Lib.hid h
  have hTa := Lib.hid (fun (W : World) (hW : RP W gr gb cb m f n T) => hW.at_ hj)
  clear h hn hf
  cases hT : T j with
  | false =>
    rw [hT] at hTa
    go_enter Try.func23, Try.ntmps23
    go_wp2_with fail
    refine wp_mixs (fun W => RP W gr gb cb m f n T) [2] (by kernel_rfl) (by kernel_rfl) (by kernel_rfl) (by decide) (show RP w.drew _ _ _ _ _ _ _ from hh.out.below (Below.refl _ _).drew) ?_
    iterate 2 ((first | refine mixsq rfl rfl 0 (by decide +kernel) ?_ (fun w' hw' => Or.inl ?_) (fun K hK => ?_) | refine mixsq rfl rfl 1 (by decide +kernel) ?_ (fun w' hw' => Or.inl ?_) (fun K hK => ?_) | refine mixsq rfl rfl 2 (by decide +kernel) ?_ (fun w' hw' => Or.inl ?_) (fun K hK => ?_) | refine mixsq rfl rfl 3 (by decide +kernel) ?_ (fun w' hw' => Or.inl ?_) (fun K hK => ?_) | refine mixsq rfl rfl 4 (by decide +kernel) ?_ (fun w' hw' => Or.inl ?_) (fun K hK => ?_) | refine mixsq rfl rfl 5 (by decide +kernel) ?_ (fun w' hw' => Or.inl ?_) (fun K hK => ?_) | refine mixsq rfl rfl 6 (by decide +kernel) ?_ (fun w' hw' => Or.inl ?_) (fun K hK => ?_) | refine mixsq rfl rfl 7 (by decide +kernel) ?_ (fun w' hw' => Or.inl ?_) (fun K hK => ?_)); rotate_left; (focus (have hc : RP w' gr gb cb m f n T := hw'; have c0 := hc.blk.cell 0; have c1 := hc.blk.cell 1; have c2 := hc.blk.cell 2; have c3 := hc.blk.cell 3; have c4 := hTa.out w' hc; go_simp; rfl)); go_simp; refine hK _ ?_; clear hK K)
    refine mixsl rfl rfl (fun K hK => ?_)
    go_simp
    refine (hI.out w.drew (hh.out.below (Below.refl _ _).drew)).mono ?_
    rintro e w2 ⟨rfl, hb2⟩
    have hr2 : RP w2 gr gb cb m f n T := (hh.out.below (Below.refl _ _).drew).below hb2
    have hB2 := Lib.hid ((Below.refl w.heap.size w).drew.trans (hb2.mono (Nat.le_refl _)))
    refine hK (fun W => RP W gr gb cb m f n T) _ _ (fun _ => ⟨hr2, fun _ => hr2⟩) ?_
    clear hK K
    iterate 2 ((first | refine mixsq rfl rfl 0 (by decide +kernel) ?_ (fun w' hw' => Or.inl ?_) (fun K hK => ?_) | refine mixsq rfl rfl 1 (by decide +kernel) ?_ (fun w' hw' => Or.inl ?_) (fun K hK => ?_) | refine mixsq rfl rfl 2 (by decide +kernel) ?_ (fun w' hw' => Or.inl ?_) (fun K hK => ?_) | refine mixsq rfl rfl 3 (by decide +kernel) ?_ (fun w' hw' => Or.inl ?_) (fun K hK => ?_) | refine mixsq rfl rfl 4 (by decide +kernel) ?_ (fun w' hw' => Or.inl ?_) (fun K hK => ?_) | refine mixsq rfl rfl 5 (by decide +kernel) ?_ (fun w' hw' => Or.inl ?_) (fun K hK => ?_) | refine mixsq rfl rfl 6 (by decide +kernel) ?_ (fun w' hw' => Or.inl ?_) (fun K hK => ?_) | refine mixsq rfl rfl 7 (by decide +kernel) ?_ (fun w' hw' => Or.inl ?_) (fun K hK => ?_)); rotate_left; (focus (have hc : RP w' gr gb cb m f n T := hw'; have c0 := hc.blk.cell 0; have c1 := hc.blk.cell 1; have c2 := hc.blk.cell 2; have c3 := hc.blk.cell 3; have c4 := hTa.out w' hc; go_simp; rfl)); go_simp; refine hK _ ?_; clear hK K)
    iterate 13 ((first | refine mixsq_yes rfl (by first | rfl | kernel_rfl) 0 (by decide +kernel) ?_ (fun w' hw' => Or.inl ?_) (fun K hK => ?_) | refine mixsq_yes rfl (by first | rfl | kernel_rfl) 1 (by decide +kernel) ?_ (fun w' hw' => Or.inl ?_) (fun K hK => ?_) | refine mixsq_yes rfl (by first | rfl | kernel_rfl) 2 (by decide +kernel) ?_ (fun w' hw' => Or.inl ?_) (fun K hK => ?_) | refine mixsq_yes rfl (by first | rfl | kernel_rfl) 3 (by decide +kernel) ?_ (fun w' hw' => Or.inl ?_) (fun K hK => ?_) | refine mixsq_yes rfl (by first | rfl | kernel_rfl) 4 (by decide +kernel) ?_ (fun w' hw' => Or.inl ?_) (fun K hK => ?_) | refine mixsq_yes rfl (by first | rfl | kernel_rfl) 5 (by decide +kernel) ?_ (fun w' hw' => Or.inl ?_) (fun K hK => ?_) | refine mixsq_yes rfl (by first | rfl | kernel_rfl) 6 (by decide +kernel) ?_ (fun w' hw' => Or.inl ?_) (fun K hK => ?_) | refine mixsq_yes rfl (by first | rfl | kernel_rfl) 7 (by decide +kernel) ?_ (fun w' hw' => Or.inl ?_) (fun K hK => ?_)); rotate_left; (focus (have hc : RP w' gr gb cb m f n T := hw'; have c0 := hc.blk.cell 0; have c1 := hc.blk.cell 1; have c2 := hc.blk.cell 2; have c3 := hc.blk.cell 3; have c4 := hTa.out w' hc; go_simp; rfl)); go_simp; refine hK _ ?_; clear hK K)
    (first | refine mixsq rfl rfl 0 (by decide +kernel) ?_ (fun w' hw' => Or.inl ?_) (fun K hK => ?_) | refine mixsq rfl rfl 1 (by decide +kernel) ?_ (fun w' hw' => Or.inl ?_) (fun K hK => ?_) | refine mixsq rfl rfl 2 (by decide +kernel) ?_ (fun w' hw' => Or.inl ?_) (fun K hK => ?_) | refine mixsq rfl rfl 3 (by decide +kernel) ?_ (fun w' hw' => Or.inl ?_) (fun K hK => ?_) | refine mixsq rfl rfl 4 (by decide +kernel) ?_ (fun w' hw' => Or.inl ?_) (fun K hK => ?_) | refine mixsq rfl rfl 5 (by decide +kernel) ?_ (fun w' hw' => Or.inl ?_) (fun K hK => ?_) | refine mixsq rfl rfl 6 (by decide +kernel) ?_ (fun w' hw' => Or.inl ?_) (fun K hK => ?_) | refine mixsq rfl rfl 7 (by decide +kernel) ?_ (fun w' hw' => Or.inl ?_) (fun K hK => ?_)); rotate_left; (focus (have hc : RP w' gr gb cb m f n T := hw'; have c0 := hc.blk.cell 0; have c1 := hc.blk.cell 1; have c2 := hc.blk.cell 2; have c3 := hc.blk.cell 3; have c4 := hTa.out w' hc; go_simp; rfl)); go_simp; refine hK _ ?_; clear hK K
    refine mixs_nil ?_
    clear hr2 hb2
    go_wp2
    go_ret
    exact .inr ⟨hT, rfl, hB2.out⟩
  | true =>
    rw [hT] at hTa
    go_enter Try.func23, Try.ntmps23
    go_wp2_with fail
    refine wp_mixs (fun W => RP W gr gb cb m f n T) [2] (by kernel_rfl) (by kernel_rfl) (by kernel_rfl) (by decide) (show RP w.drew _ _ _ _ _ _ _ from hh.out.below (Below.refl _ _).drew) ?_
    iterate 2 ((first | refine mixsq rfl rfl 0 (by decide +kernel) ?_ (fun w' hw' => Or.inl ?_) (fun K hK => ?_) | refine mixsq rfl rfl 1 (by decide +kernel) ?_ (fun w' hw' => Or.inl ?_) (fun K hK => ?_) | refine mixsq rfl rfl 2 (by decide +kernel) ?_ (fun w' hw' => Or.inl ?_) (fun K hK => ?_) | refine mixsq rfl rfl 3 (by decide +kernel) ?_ (fun w' hw' => Or.inl ?_) (fun K hK => ?_) | refine mixsq rfl rfl 4 (by decide +kernel) ?_ (fun w' hw' => Or.inl ?_) (fun K hK => ?_) | refine mixsq rfl rfl 5 (by decide +kernel) ?_ (fun w' hw' => Or.inl ?_) (fun K hK => ?_) | refine mixsq rfl rfl 6 (by decide +kernel) ?_ (fun w' hw' => Or.inl ?_) (fun K hK => ?_) | refine mixsq rfl rfl 7 (by decide +kernel) ?_ (fun w' hw' => Or.inl ?_) (fun K hK => ?_)); rotate_left; (focus (have hc : RP w' gr gb cb m f n T := hw'; have c0 := hc.blk.cell 0; have c1 := hc.blk.cell 1; have c2 := hc.blk.cell 2; have c3 := hc.blk.cell 3; have c4 := hTa.out w' hc; go_simp; rfl)); go_simp; refine hK _ ?_; clear hK K)
    refine mixsl rfl rfl (fun K hK => ?_)
    go_simp
    refine (hI.out w.drew (hh.out.below (Below.refl _ _).drew)).mono ?_
    rintro e w2 ⟨rfl, hb2⟩
    have hr2 : RP w2 gr gb cb m f n T := (hh.out.below (Below.refl _ _).drew).below hb2
    have hB2 := Lib.hid ((Below.refl w.heap.size w).drew.trans (hb2.mono (Nat.le_refl _)))
    refine hK (fun W => RP W gr gb cb m f n T) _ _ (fun _ => ⟨hr2, fun _ => hr2⟩) ?_
    clear hK K
    iterate 2 ((first | refine mixsq rfl rfl 0 (by decide +kernel) ?_ (fun w' hw' => Or.inl ?_) (fun K hK => ?_) | refine mixsq rfl rfl 1 (by decide +kernel) ?_ (fun w' hw' => Or.inl ?_) (fun K hK => ?_) | refine mixsq rfl rfl 2 (by decide +kernel) ?_ (fun w' hw' => Or.inl ?_) (fun K hK => ?_) | refine mixsq rfl rfl 3 (by decide +kernel) ?_ (fun w' hw' => Or.inl ?_) (fun K hK => ?_) | refine mixsq rfl rfl 4 (by decide +kernel) ?_ (fun w' hw' => Or.inl ?_) (fun K hK => ?_) | refine mixsq rfl rfl 5 (by decide +kernel) ?_ (fun w' hw' => Or.inl ?_) (fun K hK => ?_) | refine mixsq rfl rfl 6 (by decide +kernel) ?_ (fun w' hw' => Or.inl ?_) (fun K hK => ?_) | refine mixsq rfl rfl 7 (by decide +kernel) ?_ (fun w' hw' => Or.inl ?_) (fun K hK => ?_)); rotate_left; (focus (have hc : RP w' gr gb cb m f n T := hw'; have c0 := hc.blk.cell 0; have c1 := hc.blk.cell 1; have c2 := hc.blk.cell 2; have c3 := hc.blk.cell 3; have c4 := hTa.out w' hc; go_simp; rfl)); go_simp; refine hK _ ?_; clear hK K)
    iterate 13 ((first | refine mixsq_yes rfl (by first | rfl | kernel_rfl) 0 (by decide +kernel) ?_ (fun w' hw' => Or.inl ?_) (fun K hK => ?_) | refine mixsq_yes rfl (by first | rfl | kernel_rfl) 1 (by decide +kernel) ?_ (fun w' hw' => Or.inl ?_) (fun K hK => ?_) | refine mixsq_yes rfl (by first | rfl | kernel_rfl) 2 (by decide +kernel) ?_ (fun w' hw' => Or.inl ?_) (fun K hK => ?_) | refine mixsq_yes rfl (by first | rfl | kernel_rfl) 3 (by decide +kernel) ?_ (fun w' hw' => Or.inl ?_) (fun K hK => ?_) | refine mixsq_yes rfl (by first | rfl | kernel_rfl) 4 (by decide +kernel) ?_ (fun w' hw' => Or.inl ?_) (fun K hK => ?_) | refine mixsq_yes rfl (by first | rfl | kernel_rfl) 5 (by decide +kernel) ?_ (fun w' hw' => Or.inl ?_) (fun K hK => ?_) | refine mixsq_yes rfl (by first | rfl | kernel_rfl) 6 (by decide +kernel) ?_ (fun w' hw' => Or.inl ?_) (fun K hK => ?_) | refine mixsq_yes rfl (by first | rfl | kernel_rfl) 7 (by decide +kernel) ?_ (fun w' hw' => Or.inl ?_) (fun K hK => ?_)); rotate_left; (focus (have hc : RP w' gr gb cb m f n T := hw'; have c0 := hc.blk.cell 0; have c1 := hc.blk.cell 1; have c2 := hc.blk.cell 2; have c3 := hc.blk.cell 3; have c4 := hTa.out w' hc; go_simp; rfl)); go_simp; refine hK _ ?_; clear hK K)
    (first | refine mixsq rfl rfl 0 (by decide +kernel) ?_ (fun w' hw' => Or.inl ?_) (fun K hK => ?_) | refine mixsq rfl rfl 1 (by decide +kernel) ?_ (fun w' hw' => Or.inl ?_) (fun K hK => ?_) | refine mixsq rfl rfl 2 (by decide +kernel) ?_ (fun w' hw' => Or.inl ?_) (fun K hK => ?_) | refine mixsq rfl rfl 3 (by decide +kernel) ?_ (fun w' hw' => Or.inl ?_) (fun K hK => ?_) | refine mixsq rfl rfl 4 (by decide +kernel) ?_ (fun w' hw' => Or.inl ?_) (fun K hK => ?_) | refine mixsq rfl rfl 5 (by decide +kernel) ?_ (fun w' hw' => Or.inl ?_) (fun K hK => ?_) | refine mixsq rfl rfl 6 (by decide +kernel) ?_ (fun w' hw' => Or.inl ?_) (fun K hK => ?_) | refine mixsq rfl rfl 7 (by decide +kernel) ?_ (fun w' hw' => Or.inl ?_) (fun K hK => ?_)); rotate_left; (focus (have hc : RP w' gr gb cb m f n T := hw'; have c0 := hc.blk.cell 0; have c1 := hc.blk.cell 1; have c2 := hc.blk.cell 2; have c3 := hc.blk.cell 3; have c4 := hTa.out w' hc; go_simp; rfl)); go_simp; refine hK _ ?_; clear hK K
    refine mixs_nil ?_
    have hr2 := Lib.hid hr2
    clear hb2
    go_wp2_with fail
    refine wp_mixs_tail (fun W => RP W gr gb cb m f n T) [11] (by kernel_rfl) (by kernel_rfl) (by kernel_rfl) (by decide) (by kernel_rfl) (show RP w2.drew _ _ _ _ _ _ _ from hr2.out.below (Below.refl _ _).drew) ?_
    iterate 11 ((first | refine mixsq rfl rfl 0 (by decide +kernel) ?_ (fun w' hw' => Or.inl ?_) (fun K hK => ?_) | refine mixsq rfl rfl 1 (by decide +kernel) ?_ (fun w' hw' => Or.inl ?_) (fun K hK => ?_) | refine mixsq rfl rfl 2 (by decide +kernel) ?_ (fun w' hw' => Or.inl ?_) (fun K hK => ?_) | refine mixsq rfl rfl 3 (by decide +kernel) ?_ (fun w' hw' => Or.inl ?_) (fun K hK => ?_) | refine mixsq rfl rfl 4 (by decide +kernel) ?_ (fun w' hw' => Or.inl ?_) (fun K hK => ?_) | refine mixsq rfl rfl 5 (by decide +kernel) ?_ (fun w' hw' => Or.inl ?_) (fun K hK => ?_) | refine mixsq rfl rfl 6 (by decide +kernel) ?_ (fun w' hw' => Or.inl ?_) (fun K hK => ?_) | refine mixsq rfl rfl 7 (by decide +kernel) ?_ (fun w' hw' => Or.inl ?_) (fun K hK => ?_)); rotate_left; (focus (have hc : RP w' gr gb cb m f n T := hw'; have c0 := hc.blk.cell 0; have c1 := hc.blk.cell 1; have c2 := hc.blk.cell 2; have c3 := hc.blk.cell 3; have c4 := hTa.out w' hc; go_simp; rfl)); go_simp; refine hK _ ?_; clear hK K)
    refine mixsl rfl rfl (fun K hK => ?_)
    have hr3 : RP w2.drew gr gb cb m f n T := hr2.out.below (Below.refl _ _).drew
    have c0 := hTa.out w2.drew hr3
    have f0 := hr3.frozen j
    go_simp
    refine hK (fun _ => True) _ _ (fun h => absurd h (by decide)) ?_
    clear hK K
    refine mixs_nil ?_
    have hset := hr3.set hj false
    rw [flip_set (b := false) hT] at hset
    have hch := hr3.chg j false
    have hB3 : Below w.heap.size w w2.drew := hB2.out.trans ((Below.refl _ _).drew.mono hB2.out.size)
    have hch2 : Chg (fun i => i = gb) w (w2.drew.setCell ⟨gb, j, none⟩ (.bool false)) := (Chg.of_below hB3).trans hch
    have hfin := Lib.hid (And.intro hset hch2)
    clear hset hch hch2 hB3 hr3 c0 f0
    go_wp2
    go_ret
    exact .inl ⟨hT, rfl, hfin.out.1, hfin.out.2⟩
set_option maxRecDepth 10000 in
set_option maxHeartbeats 8000000 in
theorem rGive_out (w : World) {gr gb cb n : Nat} {m f : Int} {T : Nat → Bool} (h : RP w gr gb cb m f n T) (hf : 0 ≤ f) {nn : Int} (hnn : I64 nn) (ho : ¬ (f ≤ nn ∧ nn - f < (n : Int))) :
    Calls Try.prog 23 #[.pointer (some ⟨gr, 0, none⟩), .int .i64 nn] w fun e w' => e = .returned (.int .i64 1) ∧ Below w.heap.size w w' := by
  have hI := Lib.hid (fun (W : World) (hW : RP W gr gb cb m f n T) => rIs_calls W hW.blk (nn := nn) hf hnn)
  obtain ⟨b, hbf⟩ : ∃ b, Hid (b = false ∧ decide (f ≤ nn ∧ nn - f < (n : Int)) = b) := ⟨_, Lib.hid ⟨decide_eq_false ho, rfl⟩⟩
  rw [hbf.out.2] at hI
  replace hbf := Lib.hid hbf.out.1
  have hh := Lib.hid h
  clear h hf hnn ho
  go_enter Try.func23, Try.ntmps23
  go_wp2_with fail
  refine wp_mixs (fun W => RP W gr gb cb m f n T) [2] (by kernel_rfl) (by kernel_rfl) (by kernel_rfl) (by decide) (show RP w.drew _ _ _ _ _ _ _ from hh.out.below (Below.refl _ _).drew) ?_
  iterate 2 ((first | refine mixsq rfl rfl 0 (by decide +kernel) ?_ (fun w' hw' => Or.inl ?_) (fun K hK => ?_) | refine mixsq rfl rfl 1 (by decide +kernel) ?_ (fun w' hw' => Or.inl ?_) (fun K hK => ?_) | refine mixsq rfl rfl 2 (by decide +kernel) ?_ (fun w' hw' => Or.inl ?_) (fun K hK => ?_) | refine mixsq rfl rfl 3 (by decide +kernel) ?_ (fun w' hw' => Or.inl ?_) (fun K hK => ?_) | refine mixsq rfl rfl 4 (by decide +kernel) ?_ (fun w' hw' => Or.inl ?_) (fun K hK => ?_) | refine mixsq rfl rfl 5 (by decide +kernel) ?_ (fun w' hw' => Or.inl ?_) (fun K hK => ?_) | refine mixsq rfl rfl 6 (by decide +kernel) ?_ (fun w' hw' => Or.inl ?_) (fun K hK => ?_) | refine mixsq rfl rfl 7 (by decide +kernel) ?_ (fun w' hw' => Or.inl ?_) (fun K hK => ?_)); rotate_left; (focus (have hc : RP w' gr gb cb m f n T := hw'; have c0 := hc.blk.cell 0; have c1 := hc.blk.cell 1; have c2 := hc.blk.cell 2; have c3 := hc.blk.cell 3; go_simp; rfl)); go_simp; refine hK _ ?_; clear hK K)
  refine mixsl rfl rfl (fun K hK => ?_)
  go_simp
  refine (hI.out w.drew (hh.out.below (Below.refl _ _).drew)).mono ?_
  rintro e w2 ⟨rfl, hb2⟩
  have hr2 : RP w2 gr gb cb m f n T := (hh.out.below (Below.refl _ _).drew).below hb2
  have hB2 := Lib.hid ((Below.refl w.heap.size w).drew.trans (hb2.mono (Nat.le_refl _)))
  refine hK (fun W => RP W gr gb cb m f n T) _ _ (fun _ => ⟨hr2, fun _ => hr2⟩) ?_
  clear hK K
  iterate 2 ((first | refine mixsq rfl rfl 0 (by decide +kernel) ?_ (fun w' hw' => Or.inl ?_) (fun K hK => ?_) | refine mixsq rfl rfl 1 (by decide +kernel) ?_ (fun w' hw' => Or.inl ?_) (fun K hK => ?_) | refine mixsq rfl rfl 2 (by decide +kernel) ?_ (fun w' hw' => Or.inl ?_) (fun K hK => ?_) | refine mixsq rfl rfl 3 (by decide +kernel) ?_ (fun w' hw' => Or.inl ?_) (fun K hK => ?_) | refine mixsq rfl rfl 4 (by decide +kernel) ?_ (fun w' hw' => Or.inl ?_) (fun K hK => ?_) | refine mixsq rfl rfl 5 (by decide +kernel) ?_ (fun w' hw' => Or.inl ?_) (fun K hK => ?_) | refine mixsq rfl rfl 6 (by decide +kernel) ?_ (fun w' hw' => Or.inl ?_) (fun K hK => ?_) | refine mixsq rfl rfl 7 (by decide +kernel) ?_ (fun w' hw' => Or.inl ?_) (fun K hK => ?_)); rotate_left; (focus (have hc : RP w' gr gb cb m f n T := hw'; have c0 := hc.blk.cell 0; have c1 := hc.blk.cell 1; have c2 := hc.blk.cell 2; have c3 := hc.blk.cell 3; go_simp; rfl)); go_simp; refine hK _ ?_; clear hK K)
  iterate 13 (refine mixsq_no rfl (by have e := hbf.out; subst e; rfl) (fun K hK => ?_); go_simp; refine hK _ ?_; clear hK K)
  (first | refine mixsq rfl rfl 0 (by decide +kernel) (.bool true) (fun w' hw' => Or.inl (by have e := hbf.out; subst e; go_simp)) (fun K hK => ?_) | refine mixsq rfl rfl 1 (by decide +kernel) (.bool true) (fun w' hw' => Or.inl (by have e := hbf.out; subst e; go_simp)) (fun K hK => ?_)); go_simp; refine hK _ ?_; clear hK K
  refine mixs_nil ?_
  obtain rfl : b = false := hbf.out
  clear hr2 hb2
  go_wp2
  go_ret
  exact ⟨rfl, hB2.out⟩
end Go.Proofs.Ytefbmbfhhhjgkaa
namespace Go.Proofs.Ytefbmbfhhhjgkaa
open Go.RowKit
/-- What the caller does to blocks of its own, and a new block of its own. -/
theorem LT.ownMore {W0 w w' : World} {gl g gt N : Nat} {x : Lk} {V : Nat → List UInt8} {t : Tk} {X : Nat → Prop} (h : LT W0 w gl g gt N x V t X) {Z : Nat → Prop} (hc : Chg Z w w') (hZ : ∀ k, Z k → X k ∧ W0.heap.size ≤ k) (h8 : ∀ k cs, Blk w k 5 cs → ¬ Z k) (hi : ∀ k cs, Blk w k 3 cs → ¬ Z k) {Y : Nat → Prop} (hY : ∀ k, Y k → X k ∨ (w.heap.size ≤ k ∧ k < w'.heap.size)) : LT W0 w' gl g gt N x V t Y := by
  have h9 := h.own hc hZ h8 hi
  obtain ⟨S, F, ST, FT, h1, h2, h3, h4⟩ := h.ex
  refine ⟨⟨S, F, ST, FT, h1.chgT hc (fun k hk hz => (h4 k (.inl hk)).2 (hZ k hz).1) h8 hi, h2.chgT hc (fun k hk hz => (h4 k (.inr hk)).2 (hZ k hz).1) h8, h3, fun k hk => ⟨(h4 k hk).1, fun hy => ?_⟩⟩, h9.la, h9.tk, h9.bel, fun k hk => ?_⟩
  · rcases hY k hy with h | h
    · exact (h4 k hk).2 h
    · rcases hk with hk | hk
      · have := h1.lt hk
        omega
      · have := h2.lt hk
        omega
  · rcases hY k hk with h3 | h3
    · exact Nat.lt_of_lt_of_le (h.xl k h3) hc.size
    · exact h3.2
theorem LC.ownMore {W0 w w' : World} {gl g N : Nat} {x : Lk} {V : Nat → List UInt8} {X : Nat → Prop} (h : LC W0 w gl g N x V X) {Z : Nat → Prop} (hc : Chg Z w w') (hZ : ∀ k, Z k → X k ∧ W0.heap.size ≤ k) (h8 : ∀ k cs, Blk w k 5 cs → ¬ Z k) (hi : ∀ k cs, Blk w k 3 cs → ¬ Z k) {Y : Nat → Prop} (hY : ∀ k, Y k → X k ∨ (w.heap.size ≤ k ∧ k < w'.heap.size)) : LC W0 w' gl g N x V Y := by
  have h9 := h.own hc hZ h8 hi
  obtain ⟨S, F, h1, h2⟩ := h.ex
  refine ⟨⟨S, F, h1.chgT hc (fun k hk hz => (h2 k hk).2 (hZ k hz).1) h8 hi, fun k hk => ⟨(h2 k hk).1, fun hy => ?_⟩⟩, h9.la, h9.bel, fun k hk => ?_⟩
  · rcases hY k hy with h | h
    · exact (h2 k hk).2 h
    · have := h1.lt hk
      omega
  · rcases hY k hk with h3 | h3
    · exact Nat.lt_of_lt_of_le (h.xl k h3) hc.size
    · exact h3.2
theorem P2.ownMore {W0 w w' : World} {gl g gt N : Nat} {x : Lk} {V : Nat → List UInt8} {bl : List Nat} {m n m' n' : Nat} {T T' : Nat → Bool} {X : Nat → Prop} (h : P2 W0 w gl g gt N x V bl m n T m' n' T' X) {Z : Nat → Prop} (hc : Chg Z w w') (hZ : ∀ k, Z k → X k ∧ W0.heap.size ≤ k) (h8 : ∀ k cs, Blk w k 5 cs → ¬ Z k) (hi : ∀ k cs, Blk w k 3 cs → ¬ Z k) {Y : Nat → Prop} (hY : ∀ k, Y k → X k ∨ (w.heap.size ≤ k ∧ k < w'.heap.size)) : P2 W0 w' gl g gt N x V bl m n T m' n' T' Y := by
  obtain ⟨t, h1, h2⟩ := h.ex
  exact ⟨t, h1.ownMore hc hZ h8 hi hY, h2⟩
def PX (gr gb ba : Nat) : Nat → Prop := fun k => k = gr ∨ k = gb ∨ k = ba
/-- The blocks at ba hold n bools. -/
def RB (w : World) (ba n : Nat) (B : Nat → Bool) : Prop := ∃ cs, Blk w ba 4 cs ∧ ∀ i, i < n → cs[i]? = some (.bool (B i))
theorem RB.below {w w' : World} {ba n : Nat} {B : Nat → Bool} (h : RB w ba n B) (hb : Below w.heap.size w w') : RB w' ba n B := by
  obtain ⟨cs, h1, h2⟩ := h
  exact ⟨cs, blk_below h1 hb, h2⟩
theorem RB.rd {w : World} {ba n c : Nat} {B : Nat → Bool} (h : RB w ba n B) (hc : n ≤ c) : Rd w (.slice (some ⟨ba, 0, none⟩) n c) ((List.range n).map fun i => .bool (B i)) := by
  obtain ⟨cs, h1, h2⟩ := h
  refine ⟨some ⟨ba, 0, none⟩, c, by simp, by simpa using hc, fun _ => ⟨_, rfl, fun j u hu => ?_⟩⟩
  rw [List.getElem?_map] at hu
  rcases Nat.lt_or_ge j n with hlt | hge
  · rw [List.getElem?_range hlt] at hu
    cases hu
    rw [addr_add_at, Nat.zero_add, h1.cell]
    exact h2 j hlt
  · rw [List.getElem?_eq_none (by simpa using hge)] at hu; cases hu
/-- What the rows say: R the document's, U what was committed, B what the law keeps of it. -/
structure Sx (W0 w : World) (qp gr gb cb ba m n : Nat) (f : Int) (K : Int) (x : Lk) (V : Nat → List UInt8) (R U B : Nat → Bool) : Prop where
  dat : ∀ j, j < n → bitAt (datP x V (m + j / 4096)) (j % 4096) = U j
  pn : 0 ≤ x.pn ∧ x.pn ≤ K
  q0 : Blk W0 qp 29 #[.int .i64 (m : Int), .int .i64 f, .int .i64 (n : Int)]
  rp : RP w gr gb cb (m : Int) f n R
  wb : RB w ba n B
  new : W0.heap.size ≤ gr ∧ W0.heap.size ≤ gb
  ne : gb ≠ ba
  cbn : n ≤ cb
/-- .. in a transaction: T what the pool says. -/
structure St (W0 w : World) (gl g gt qp gr gb cb ba m n : Nat) (f : Int) (K : Int) (x : Lk) (V : Nat → List UInt8) (T R U B : Nat → Bool) : Prop where
  p2 : P2 W0 w gl g gt 100 x V [m, m + 1, m + 2, m + 3] m n T 0 0 (fun _ => false) (PX gr gb ba)
  sx : Sx W0 w qp gr gb cb ba m n f K x V R U B
/-- .. between transactions. -/
structure Sm (W0 w : World) (gl g qp gr gb cb ba m n : Nat) (f : Int) (K : Int) (x : Lk) (V : Nat → List UInt8) (R U B : Nat → Bool) : Prop where
  lc : LC W0 w gl g 100 x V (PX gr gb ba)
  op : x.op = false
  sx : Sx W0 w qp gr gb cb ba m n f K x V R U B
section
variable {W0 w w' : World} {gl g gt qp gr gb cb ba m n : Nat} {f K : Int} {x : Lk} {V : Nat → List UInt8} {T R U B : Nat → Bool}
theorem Sx.below (h : Sx W0 w qp gr gb cb ba m n f K x V R U B) (hb : Below w.heap.size w w') : Sx W0 w' qp gr gb cb ba m n f K x V R U B :=
  ⟨h.dat, h.pn, h.q0, h.rp.below hb, h.wb.below hb, h.new, h.ne, h.cbn⟩
theorem Sx.keep (h : Sx W0 w qp gr gb cb ba m n f K x V R U B) (hk : KeepX (PX gr gb ba) w w') : Sx W0 w' qp gr gb cb ba m n f K x V R U B := by
  obtain ⟨cs, q1, q2⟩ := h.wb
  exact ⟨h.dat, h.pn, h.q0, h.rp.keep hk (.inl rfl) (.inr (.inl rfl)), ⟨cs, hk.blk q1 (.inr (.inr rfl)), q2⟩, h.new, h.ne, h.cbn⟩
theorem St.below (h : St W0 w gl g gt qp gr gb cb ba m n f K x V T R U B) (hb : Below w.heap.size w w') : St W0 w' gl g gt qp gr gb cb ba m n f K x V T R U B := ⟨h.p2.below hb, h.sx.below hb⟩
theorem Sm.below (h : Sm W0 w gl g qp gr gb cb ba m n f K x V R U B) (hb : Below w.heap.size w w') : Sm W0 w' gl g qp gr gb cb ba m n f K x V R U B := ⟨h.lc.below hb, h.op, h.sx.below hb⟩
theorem St.qb (h : St W0 w gl g gt qp gr gb cb ba m n f K x V T R U B) : Blk w qp 29 #[.int .i64 (m : Int), .int .i64 f, .int .i64 (n : Int)] := blk_below h.sx.q0 h.p2.bel
theorem Sx.mono (h : Sx W0 w qp gr gb cb ba m n f K x V R U B) {K' : Int} (hk : K ≤ K') : Sx W0 w qp gr gb cb ba m n f K' x V R U B := ⟨h.dat, ⟨h.pn.1, Int.le_trans h.pn.2 hk⟩, h.q0, h.rp, h.wb, h.new, h.ne, h.cbn⟩
theorem St.mono (h : St W0 w gl g gt qp gr gb cb ba m n f K x V T R U B) {K' : Int} (hk : K ≤ K') : St W0 w gl g gt qp gr gb cb ba m n f K' x V T R U B := ⟨h.p2, h.sx.mono hk⟩
theorem mapIn (hp : PoolOk 35 m f n) : MapIn 100 m n f [m, m + 1, m + 2, m + 3] := ⟨by omega, hp, by simp, fun k hk => by
  have : k = 0 ∨ k = 1 ∨ k = 2 ∨ k = 3 := by have := hp.n0; omega
  rcases this with rfl | rfl | rfl | rfl <;> simp⟩
theorem St.take (h : St W0 w gl g gt qp gr gb cb ba m n f K x V T R U B) (hp : PoolOk 35 m f n) :
    Calls Try.prog 10 #[.agg #[.int .i64 (m : Int), .int .i64 f, .int .i64 (n : Int)], .pointer (some ⟨gt, 0, none⟩)] w fun e w' =>
      (leastG T n 0 = none ∧ e = .returned (.tuple #[.int .i64 0, .int .i64 7]) ∧ St W0 w' gl g gt qp gr gb cb ba m n f K x V T R U B) ∨
      (∃ i, leastG T n 0 = some i ∧ e = .returned (.tuple #[.int .i64 (f + (i : Int)), .int .i64 0]) ∧ St W0 w' gl g gt qp gr gb cb ba m n f K x V (flipT T i) R U B) := by
  refine (h.p2.take (mapIn hp) (Apt.zero _ _ _)).mono ?_
  rintro e w' (⟨a, b, c, d⟩ | ⟨i, a, b, c, d⟩)
  · exact .inl ⟨a, b, c, h.sx.keep d⟩
  · exact .inr ⟨i, a, b, c, h.sx.keep d⟩
theorem St.give (h : St W0 w gl g gt qp gr gb cb ba m n f K x V T R U B) (hp : PoolOk 35 m f n) {j : Nat} (hj : j < n) :
    Calls Try.prog 11 #[.agg #[.int .i64 (m : Int), .int .i64 f, .int .i64 (n : Int)], .pointer (some ⟨gt, 0, none⟩), .int .i64 (f + (j : Int))] w fun e w' =>
      (T j = true ∧ e = .returned (.int .i64 0) ∧ St W0 w' gl g gt qp gr gb cb ba m n f K x V (flipT T j) R U B) ∨
      (T j = false ∧ e = .returned (.int .i64 1) ∧ St W0 w' gl g gt qp gr gb cb ba m n f K x V T R U B) := by
  refine (h.p2.give (mapIn hp) (Apt.zero _ _ _) hj).mono ?_
  rintro e w' (⟨a, b, c, d⟩ | ⟨a, b, c, d⟩)
  · exact .inl ⟨a, b, c, h.sx.keep d⟩
  · exact .inr ⟨a, b, c, h.sx.keep d⟩
theorem St.clear (h : St W0 w gl g gt qp gr gb cb ba m n f K x V T R U B) (hp : PoolOk 35 m f n) :
    Calls Try.prog 9 #[.agg #[.int .i64 (m : Int), .int .i64 f, .int .i64 (n : Int)], .pointer (some ⟨gt, 0, none⟩)] w fun e w' =>
      e = .returned (.int .i64 0) ∧ St W0 w' gl g gt qp gr gb cb ba m n f K x V (fun _ => false) R U B := by
  refine (h.p2.clear (mapIn hp) (Apt.zero _ _ _)).mono ?_
  rintro e w' ⟨a, b, c⟩
  exact ⟨a, b, h.sx.keep c⟩
/-- What the document's row says is changed. -/
theorem St.row (h : St W0 w gl g gt qp gr gb cb ba m n f K x V T R U B) (hc : Chg (fun j => j = gb) w w') {R' : Nat → Bool} (hr : RP w' gr gb cb (m : Int) f n R') : St W0 w' gl g gt qp gr gb cb ba m n f K x V T R' U B := by
  obtain ⟨cs, q1, q2⟩ := h.sx.wb
  obtain ⟨cr, r1, r2⟩ := h.sx.rp.row
  refine ⟨h.p2.own hc (fun k hk => ⟨.inr (.inl hk), by rw [show k = gb from hk]; exact h.sx.new.2⟩) (fun k cs hb hk => by subst hk; cases r1.symm.trans hb) (fun k cs hb hk => by subst hk; cases r1.symm.trans hb),
    h.sx.dat, h.sx.pn, h.sx.q0, hr, ⟨cs, q1.chg hc (fun e => h.sx.ne e.symm), q2⟩, h.sx.new, h.sx.ne, h.sx.cbn⟩
/-- The document's pool has a new row. -/
theorem St.rerow (h : St W0 w gl g gt qp gr gb cb ba m n f K x V T R U B) (hc : Chg (fun j => j = gr) w w') {R' : Nat → Bool} {gb' cb' : Nat} (hg : w.heap.size ≤ gb' ∧ gb' < w'.heap.size) (hn : n ≤ cb') (hr : RP w' gr gb' cb' (m : Int) f n R') : St W0 w' gl g gt qp gr gb' cb' ba m n f K x V T R' U B := by
  obtain ⟨cs, q1, q2⟩ := h.sx.wb
  have hl := q1.lt
  have b0 := h.sx.rp.blk
  refine ⟨h.p2.ownMore hc (fun k hk => ⟨.inl hk, by rw [show k = gr from hk]; exact h.sx.new.1⟩) (fun k cs hb hk => by subst hk; cases b0.symm.trans hb) (fun k cs hb hk => by subst hk; cases b0.symm.trans hb) (fun k hk => ?_),
    h.sx.dat, h.sx.pn, h.sx.q0, hr, ⟨cs, q1.chg hc (fun e => by subst e; cases b0.symm.trans q1), q2⟩, ⟨h.sx.new.1, Nat.le_trans h.p2.bel.size hg.1⟩, by omega, hn⟩
  rcases hk with hk | hk | hk
  · exact .inl (.inl hk)
  · exact .inr (by rw [hk]; exact hg)
  · exact .inl (.inr (.inr hk))
/-- The law keeps a new row. -/
theorem St.was (h : St W0 w gl g gt qp gr gb cb ba m n f K x V T R U B) (hb : Below w.heap.size w w') {B' : Nat → Bool} {ba' : Nat} (hg : w.heap.size ≤ ba' ∧ ba' < w'.heap.size) (hr : RB w' ba' n B') : St W0 w' gl g gt qp gr gb cb ba' m n f K x V T R U B' := by
  have hs := h.sx.below hb
  have hl : gb < w.heap.size := by obtain ⟨cs, q1, _⟩ := h.sx.rp.row; exact q1.lt
  refine ⟨h.p2.more hb (fun k hk => ?_), hs.dat, hs.pn, hs.q0, hs.rp, hr, hs.new, by omega, hs.cbn⟩
  rcases hk with hk | hk | hk
  · exact .inl (.inl hk)
  · exact .inl (.inr (.inl hk))
  · exact .inr (by rw [hk]; exact hg)
theorem St.commit (h : St W0 w gl g gt qp gr gb cb ba m n f K x V T R U B) (hp : PoolOk 35 m f n) (hK : 0 ≤ K ∧ K ≤ 1000000) :
    Calls Try.prog 19 #[.pointer (some ⟨gt, 0, none⟩)] w fun e w' => e = .returned (.int .i64 0) ∧ ∃ y V', Sm W0 w' gl g qp gr gb cb ba m n f (K + 1) y V' R T B := by
  obtain ⟨t, h1, h2, h3, h4, _⟩ := h.p2.ex
  refine (cCommit h1 (by omega) h2 ⟨h.sx.pn.1, by have := h.sx.pn.2; omega⟩).mono ?_
  rintro e w' ⟨rfl, y, V', a1, a2, a3, a4, a5, _⟩
  have hs := h.sx.keep a2
  refine ⟨rfl, y, V', a1.lc, a4, fun j hj => ?_, ?_, hs.q0, hs.rp, hs.wb, hs.new, hs.ne, hs.cbn⟩
  · rw [a3 _ (by have := hp.m0; have := hp.n0; omega)]
    exact h4 j hj
  · have := h.sx.pn
    rw [a5]
    split <;> omega
theorem St.abort (h : St W0 w gl g gt qp gr gb cb ba m n f K x V T R U B) :
    Calls Try.prog 25 #[.pointer (some ⟨gt, 0, none⟩)] w fun e w' => e = .returned (.tuple #[]) ∧ ∃ y V', Sm W0 w' gl g qp gr gb cb ba m n f (K + 1) y V' R U B := by
  obtain ⟨t, h1, h2, h3, h4, _⟩ := h.p2.ex
  refine (cAbort h1 h2).mono ?_
  rintro e w' ⟨rfl, a1, a2⟩
  have hs := h.sx.keep a2
  exact ⟨rfl, _, _, a1.lc, rfl, h.sx.dat, ⟨h.sx.pn.1, by have := h.sx.pn.2; show x.pn ≤ _; omega⟩, hs.q0, hs.rp, hs.wb, hs.new, hs.ne, hs.cbn⟩
theorem Sm.begin_ (h : Sm W0 w gl g qp gr gb cb ba m n f K x V R U B) :
    Calls Try.prog 20 #[.pointer (some ⟨gl, 0, none⟩)] w fun e w' => ∃ gt x', e = .returned (.tuple #[.pointer (some ⟨gt, 0, none⟩), .int .i64 0]) ∧ St W0 w' gl g gt qp gr gb cb ba m n f K x' V U R U B := by
  refine (cBegin h.lc h.op).mono ?_
  rintro e w' ⟨gt, rfl, a1, a2⟩
  have hs := h.sx.keep a2
  exact ⟨gt, _, rfl, (a1.fresh1 _ m n).congr fun j hj => h.sx.dat j hj, h.sx.dat, h.sx.pn, hs.q0, hs.rp, hs.wb, hs.new, hs.ne, hs.cbn⟩
end
end Go.Proofs.Ytefbmbfhhhjgkaa
namespace Go.Proofs.Ytefbmbfhhhjgkaa
open Go.RowKit
theorem add_cellA {w : World} {ad : Addr} {j : Nat} {u : Value} (h : w.cell? (ad.add (j + 1)) = some u) : w.cell? ⟨ad.block, ad.off + (j + 1), none⟩ = some u := by
  unfold Addr.add at h
  rw [if_neg (by omega)] at h
  exact h
structure PAct where
  op : Int
  n : Int
def PAct.row (a : PAct) : List Value := [.int .i64 a.op, .int .i64 a.n]
def PAct.ok (a : PAct) : Prop := (Lit.int .i64 a.n).wf = true
def RdP (w : World) (x : Value) (l : List PAct) : Prop := RdF 2 w x (l.map PAct.row) ∧ ∀ a ∈ l, a.ok
theorem RdP.below {w w' : World} {x : Value} {l : List PAct} (h : RdP w x l) (hb : Below w.heap.size w w') : RdP w' x l := ⟨h.1.below hb, h.2⟩
theorem RdP.shape {w : World} {x : Value} {l : List PAct} (h : RdP w x l) : ∃ A c, x = .slice A l.length c := by
  obtain ⟨A, c, e⟩ := RdF.shape h.1
  rw [List.length_map] at e
  exact ⟨A, c, e⟩
theorem RdP.at_ {w : World} {A : Option Addr} {n c : Nat} {l : List PAct} (h : RdP w (.slice A n c) l) {k : Nat} (hk : k < l.length) :
    ∃ ad, A = some ad ∧ w.cell? (ad.add (k * 2)) = some (.int .i64 l[k].op) ∧ w.cell? ⟨(ad.add (k * 2)).block, (ad.add (k * 2)).off + 1, none⟩ = some (.int .i64 l[k].n) := by
  obtain ⟨ad, e, hc⟩ := RdF.at_ h.1 (k := k) (by rw [List.length_map]; exact hk)
  rw [List.getElem_map] at hc
  refine ⟨ad, e, ?_, add_cellA (j := 0) (hc 1 _ rfl)⟩
  have := hc 0 _ rfl
  simpa [addr_add_add] using this
structure PoolV where
  m : Int
  f : Int
  n : Int
def PoolV.cells (p : PoolV) : Array Value := #[.int .i64 p.m, .int .i64 p.f, .int .i64 p.n]
def PoolV.ok (p : PoolV) : Prop := (Lit.int .i64 p.m).wf = true ∧ (Lit.int .i64 p.f).wf = true ∧ (Lit.int .i64 p.n).wf = true
end Go.Proofs.Ytefbmbfhhhjgkaa
