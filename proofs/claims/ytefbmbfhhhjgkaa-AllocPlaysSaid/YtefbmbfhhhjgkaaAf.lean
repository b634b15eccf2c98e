/- Pools: the functions that each calls. Printed by genae.py. Pools: Clear, Free. Printed by genaf.py. -/
import Derived.Test.YtefbmbfhhhjgkaaAd
namespace Go.Proofs.Ytefbmbfhhhjgkaa
open Go.RowKit
section
variable {W0 w w' : World} {gl g gt N : Nat} {x : Lk} {V : Nat → List UInt8} {t : Tk} {X : Nat → Prop}
/-- All new blocks are the caller's. -/
theorem LT.wide (h : LT W0 w gl g gt N x V t X) (hb : Below w.heap.size w w') : LT W0 w' gl g gt N x V t (fun k => X k ∨ (w.heap.size ≤ k ∧ k < w'.heap.size)) := h.more hb fun _ hk => hk
theorem LT.less (h : LT W0 w gl g gt N x V t X) {Y : Nat → Prop} (hY : ∀ k, Y k → X k) : LT W0 w gl g gt N x V t Y := h.more (Below.refl _ _) fun k hk => .inl (hY k hk)
end
theorem Blk.farN {w : World} {g : Nat} {t : TypeId} {cs : Array Value} (h : Blk w g t cs) {b : Nat} (hne : g ≠ b) (i : Nat) (u : Value) : Blk (w.setCell ⟨b, i, none⟩ u) g t cs := h.far hne u
theorem tr_write {N : Nat} {t : Tk} {bl : List Nat} (hs : TSub bl t) {k : Nat} (hk : k ∈ bl) (hl : bl.length ≤ 63) (hB : k < N - 65) (ho : t.ov = false) {bs : List UInt8} (hb : bs.length = 512) : twriteP (N - 65) t (k : Int) bs = (0, tput t k bs) := (hs.write hk hl hB ho hb).1
set_option maxRecDepth 10000 in
set_option maxHeartbeats 4000000 in
/-- Take's function: none is free here. -/
theorem take1_none (W : World) {q0 q1 q2 q3 k bx cx c : Nat} {bk : List UInt8} (hO : Own8 W (.slice (some ⟨bx, 0, none⟩) 512 cx) bk) (hl : bk.length = 512) (hc : c ≤ 4096) (hk : k ≤ 3) (hnone : leastG (bitAt bk) c 0 = none) :
    Calls Try.prog 36 #[.int .i64 (k : Int), .slice (some ⟨bx, 0, none⟩) 512 cx, .int .i64 (c : Int), .pointer (some ⟨q0, 0, none⟩), .pointer (some ⟨q2, 0, none⟩), .pointer (some ⟨q3, 0, none⟩), .pointer (some ⟨q1, 0, none⟩)] W (Ans W (.tuple #[.bool true, .int .i64 0])) := by
  have hF := first_calls W (.slice (some ⟨bx, 0, none⟩) 512 cx) bk 0 (c : Int) hO.rd (by omega) (by omega) (by omega) (by omega) (by omega)
  rw [run1_eq hl hc, hnone] at hF
  have hF := Lib.hid hF
  clear hO hnone
  go_enter Try.func36, Try.ntmps36
  go_wp2_with fail
  refine hF.out.mono ?_
  rintro e w' ⟨rfl, rfl⟩
  go_wp2
  go_ret2
  exact ⟨rfl, rfl⟩
/-- Take's function: the first that is free. -/
def Took (W : World) (W0 : World) (gl g gt N : Nat) (x : Lk) (V : Nat → List UInt8) (t : Tk) (Y : Nat → Prop) (q2 q3 bx : Nat) (v : Int) (e : Ending) (W' : World) : Prop :=
  e = .returned (.tuple #[.bool false, .int .i64 0]) ∧ LT W0 W' gl g gt N x V t Y ∧ (∀ j, Y j → j ≠ q2 → j ≠ q3 → j ≠ bx → W'.heap[j]? = W.heap[j]?) ∧ Blk W' q2 3 #[.int .i64 v] ∧ Blk W' q3 4 #[.bool true] ∧ W.heap.size ≤ W'.heap.size
set_option maxRecDepth 10000 in
set_option maxHeartbeats 8000000 in
theorem take1_some (w W : World) {W0 : World} {gl g gt N : Nat} {x : Lk} {V : Nat → List UInt8} {t : Tk} {X : Nat → Prop} (h : LT W0 w gl g gt N x V t X) (hN : 65 < N ∧ N ≤ 16000) (hB : Below w.heap.size w W) {f n : Int} {m q0 q1 q2 q3 k bx cx c j : Nat} {bk : List UInt8} (hq : w.heap.size ≤ q0 ∧ w.heap.size ≤ q1 ∧ w.heap.size ≤ q2 ∧ w.heap.size ≤ q3 ∧ w.heap.size ≤ bx) (hO : Own8 W (.slice (some ⟨bx, 0, none⟩) 512 cx) bk) (hl : bk.length = 512) (hc : c ≤ 4096) (hk : k ≤ 3) (hf : 0 ≤ f ∧ f ≤ 1073741824) (hm : m + k < N - 65)
    (b0 : Blk W q0 29 #[.int .i64 (m : Int), .int .i64 f, .int .i64 n]) (b1 : Blk W q1 25 #[.pointer (some ⟨gt, 0, none⟩)]) (b2 : Blk W q2 3 #[.int .i64 0]) (b3 : Blk W q3 4 #[.bool false])
    (hsome : leastG (bitAt bk) c 0 = some j) (hw : twriteP (N - 65) t ((m + k : Nat) : Int) (turn bk j) = (0, tput t (m + k) (turn bk j))) :
    Calls Try.prog 36 #[.int .i64 (k : Int), .slice (some ⟨bx, 0, none⟩) 512 cx, .int .i64 (c : Int), .pointer (some ⟨q0, 0, none⟩), .pointer (some ⟨q2, 0, none⟩), .pointer (some ⟨q3, 0, none⟩), .pointer (some ⟨q1, 0, none⟩)] W (Took W W0 gl g gt N x V (tput t (m + k) (turn bk j)) (fun i => X i ∨ (w.heap.size ≤ i ∧ i < W.heap.size)) q2 q3 bx (f + (k : Int) * 4096 + (j : Int))) := by
  obtain ⟨s1, s2, s3, _⟩ := leastG_some hsome
  have hj : j < 4096 := by omega
  have hF := first_calls W (.slice (some ⟨bx, 0, none⟩) 512 cx) bk 0 (c : Int) hO.rd (by omega) (by omega) (by omega) (by omega) (by omega)
  rw [run1_eq hl hc, hsome] at hF
  have hF := Lib.hid hF
  have hS := set_calls W (.slice (some ⟨bx, 0, none⟩) 512 cx) bk (j : Int) hO (by omega) (by omega) (by omega)
  rw [setP_free hl hj s3] at hS
  have hS := Lib.hid hS
  have hbx : ∀ {q t cs}, Blk W q t cs → 5 ≠ t → q ≠ bx := fun hb ht e => by
    obtain ⟨cs2, hk2⟩ := own_kindI hO (k := bx) rfl
    exact (hk2.ne_ hb ht) e.symm
  have x0 := hbx b0 (by decide)
  have x1 := hbx b1 (by decide)
  have x2 := hbx b2 (by decide)
  have x3 := hbx b3 (by decide)
  have n23 : q2 ≠ q3 := b2.ne_ b3 (by decide)
  have n20 : q2 ≠ q0 := b2.ne_ b0 (by decide)
  have n30 : q3 ≠ q0 := b3.ne_ b0 (by decide)
  have n21 : q2 ≠ q1 := b2.ne_ b1 (by decide)
  have n31 : q3 ≠ q1 := b3.ne_ b1 (by decide)
  have hh := Lib.hid h
  have hwh := Lib.hid hw
  have hNh := Lib.hid hN
  have hBh := Lib.hid hB
  have b0h := Lib.hid b0
  have b1h := Lib.hid b1
  have b2h := Lib.hid b2
  have b3h := Lib.hid b3
  have l0 := b0.lt
  have l1 := b1.lt
  have l2 := b2.lt
  have l3 := b3.lt
  clear h hO hsome hw hB b0 b1 b2 b3 s1 s2 s3
  go_enter Try.func36, Try.ntmps36
  go_wp2_with fail
  refine hF.out.mono ?_
  rintro e w2 ⟨rfl, rfl⟩
  go_wp2_with fail
  refine hS.out.mono ?_
  rintro e w2 ⟨rfl, ho2, hc2⟩
  have hc2 : Chg (fun i => i = bx) W w2 := hc2.mono fun i _ hi => by
    have e : bx = i := Option.some.inj hi
    exact e.symm
  have y0 := b0h.out.chg hc2 x0
  have y1 := b1h.out.chg hc2 x1
  have y2 := b2h.out.chg hc2 x2
  have y3 := b3h.out.chg hc2 x3
  have c1 : w2.cell? ⟨q0, 1, none⟩ = some (.int .i64 f) := y0.cell 1
  have c0 : w2.cell? ⟨q0, 0, none⟩ = some (.int .i64 (m : Int)) := y0.cell 0
  have d1 : w2.cell? ⟨q1, 0, none⟩ = some (.pointer (some ⟨gt, 0, none⟩)) := y1.cell 0
  have d2 : w2.cell? ⟨q2, 0, none⟩ = some (.int .i64 0) := y2.cell 0
  have d3 : w2.cell? ⟨q3, 0, none⟩ = some (.bool false) := y3.cell 0
  have f2 := y2.frozen 0
  have f3 := y3.frozen 0
  have z2 := (y2.set_ 0 (.int .i64 (f + (k : Int) * 4096 + (j : Int)))).far (p := ⟨q3, 0, none⟩) (fun e => n23 e) (.bool true)
  have z3 := (y3.far (p := ⟨q2, 0, none⟩) (fun e => n23 e.symm) (.int .i64 (f + (k : Int) * 4096 + (j : Int)))).set_ 0 (.bool true)
  have hch : Chg (fun i => i = q2 ∨ i = q3 ∨ i = bx) W ((w2.setCell ⟨q2, 0, none⟩ (.int .i64 (f + (k : Int) * 4096 + (j : Int)))).setCell ⟨q3, 0, none⟩ (.bool true)) := ((hc2.mono (fun i _ hi => .inr (.inr hi))).setCell (p := ⟨q2, 0, none⟩) (fun _ => .inl rfl) _).setCell (p := ⟨q3, 0, none⟩) (fun _ => .inr (.inl rfl)) _
  have hB3 : Below w.heap.size w ((w2.setCell ⟨q2, 0, none⟩ (.int .i64 (f + (k : Int) * 4096 + (j : Int)))).setCell ⟨q3, 0, none⟩ (.bool true)) := hBh.out.trans (hch.below hBh.out.size (fun i hi => by rcases hi with e | e | e <;> omega))
  have hrd3 : Rd ((w2.setCell ⟨q2, 0, none⟩ (.int .i64 (f + (k : Int) * 4096 + (j : Int)))).setCell ⟨q3, 0, none⟩ (.bool true)) (.slice (some ⟨bx, 0, none⟩) 512 cx) (bvs (turn bk j)) := ((Rd.of_own ho2).far (fun e => x2 (by have e : bx = q2 := Option.some.inj e; exact e.symm)) _).far (fun e => x3 (by have e : bx = q3 := Option.some.inj e; exact e.symm)) _
  have hszc := hch.size
  have hL := (hh.out.wide hB3).less (Y := fun i => X i ∨ (w.heap.size ≤ i ∧ i < W.heap.size)) (fun i hi => hi.imp id fun e => ⟨e.1, Nat.lt_of_lt_of_le e.2 hszc⟩)
  have hW := cWrite hL hNh.out ((m + k : Nat) : Int) (by have := hNh.out; omega) (by have := hNh.out; omega) _ (turn bk j) hrd3 (by rw [turn_len, hl]; omega)
  rw [hwh.out] at hW
  have emk : ((m + k : Nat) : Int) = (m : Int) + (k : Int) := by omega
  rw [emk] at hW
  have hW := Lib.hid hW
  have hch := Lib.hid hch
  have z2 := Lib.hid z2
  have z3 := Lib.hid z3
  clear hS hF ho2 hc2 y0 y1 y2 y3 hB3 hrd3 hL
  go_wp2_with fail
  refine hW.out.mono ?_
  rintro e w4 ⟨rfl, hL4, hK4⟩
  have hfin : Hid (Took W W0 gl g gt N x V (tput t (m + k) (turn bk j)) (fun i => X i ∨ (w.heap.size ≤ i ∧ i < W.heap.size)) q2 q3 bx (f + (k : Int) * 4096 + (j : Int)) (.returned (.tuple #[.bool false, .int .i64 0])) w4) := Lib.hid ⟨rfl, hL4, fun i hY e2 e3 e4 => ?_, (hK4 q2 (.inr ⟨hq.2.2.1, l2⟩)).trans z2.out, (hK4 q3 (.inr ⟨hq.2.2.2.1, l3⟩)).trans z3.out, ?_⟩
  · clear hW hL4 hK4 hch z2 z3
    go_wp2
    go_ret2
    exact hfin.out
  · have hlt : i < W.heap.size := by
      rcases hY with e | e
      · exact Nat.lt_of_lt_of_le (hh.out.xl i e) hBh.out.size
      · exact e.2
    exact (hK4 i hY).trans (hch.out.block i hlt (fun h => by rcases h with e | e | e <;> contradiction))
  · have := hL4.xl (W.heap.size - 1) (.inr ⟨by omega, by omega⟩)
    omega
/-- The boxes that Take has made. -/
structure TBox (W : World) (gt q0 q1 q2 q3 : Nat) (m f n : Int) (v : Int) (b : Bool) : Prop where
  b0 : Blk W q0 29 #[.int .i64 m, .int .i64 f, .int .i64 n]
  b1 : Blk W q1 25 #[.pointer (some ⟨gt, 0, none⟩)]
  b2 : Blk W q2 3 #[.int .i64 v]
  b3 : Blk W q3 4 #[.bool b]
theorem TBox.keep {W W' : World} {gt q0 q1 q2 q3 : Nat} {m f n v : Int} {b : Bool} (h : TBox W gt q0 q1 q2 q3 m f n v b) (hb : Below W.heap.size W W') : TBox W' gt q0 q1 q2 q3 m f n v b :=
  ⟨(hb.block _ h.b0.lt).trans h.b0, (hb.block _ h.b1.lt).trans h.b1, (hb.block _ h.b2.lt).trans h.b2, (hb.block _ h.b3.lt).trans h.b3⟩
/-- What Take leaves. -/
def TakeTo (W0 w : World) (gl g gt N : Nat) (x : Lk) (V : Nat → List UInt8) (t : Tk) (X : Nat → Prop) (m : Nat) (f : Int) (n : Nat) (T : Nat → Bool) (e : Ending) (w' : World) : Prop :=
  match leastG T n 0 with
  | none => e = .returned (.tuple #[.int .i64 0, .int .i64 7]) ∧ LT W0 w' gl g gt N x V t X ∧ KeepX X w w'
  | some i => e = .returned (.tuple #[.int .i64 (f + (i : Int)), .int .i64 0]) ∧ LT W0 w' gl g gt N x V (tput t (m + i / 4096) (turn (tvw x V t (m + i / 4096)) (i % 4096))) X ∧ KeepX X w w'
/-- A pool whose map is of a log's blocks, in numbers. -/
structure PoolOk (B m : Nat) (f : Int) (n : Nat) : Prop where
  f0 : 0 ≤ f ∧ f ≤ 1073741824
  n0 : 1 ≤ n ∧ n ≤ 16384
  m0 : m + ((n - 1) / 4096 + 1) ≤ B
theorem PoolOk.right {B m n : Nat} {f : Int} (h : PoolOk B m f n) (hB : B ≤ 16000) : rightP (m : Int) f (n : Int) (B : Int) = true ∧ mapsP (n : Int) = (((n - 1) / 4096 + 1 : Nat) : Int) := by
  obtain ⟨h1, h2, h3⟩ := h
  have e : mapsP (n : Int) = (((n - 1) / 4096 + 1 : Nat) : Int) := by
    unfold mapsP
    rw [if_neg (by omega)]
    omega
  refine ⟨?_, e⟩
  unfold rightP
  rw [e]
  exact decide_eq_true ⟨by omega, by omega, by omega, by omega, by omega, by omega⟩
set_option maxRecDepth 100000 in
set_option maxHeartbeats 8000000 in
theorem Take_calls {W0 w : World} {gl g gt N : Nat} {x : Lk} {V : Nat → List UInt8} {t : Tk} {X : Nat → Prop} (h : LT W0 w gl g gt N x V t X) (hN : 65 < N ∧ N ≤ 16000) (ho : t.ov = false) {m n : Nat} {f : Int} (hp : PoolOk (N - 65) m f n) {T : Nat → Bool} (hT : PB (tvw x V t) m n T) {bl : List Nat} (hs : TSub bl t) (hbl : bl.length ≤ 63) (hmb : ∀ k, k < (n - 1) / 4096 + 1 → m + k ∈ bl) :
    Calls Try.prog 10 #[.agg #[.int .i64 (m : Int), .int .i64 f, .int .i64 (n : Int)], .pointer (some ⟨gt, 0, none⟩)] w (TakeTo W0 w gl g gt N x V t X m f n T) := by
  obtain ⟨hr, hmp⟩ := hp.right (by omega)
  have hpp := hp
  obtain ⟨⟨f1, f2⟩, ⟨n1, n2⟩, m1⟩ := hp
  obtain ⟨w1, hw1⟩ : ∃ w1, (((w.alloc (.cells #[.int .i64 (m : Int), .int .i64 f, .int .i64 (n : Int)] 29)).alloc (.cells #[.pointer (some ⟨gt, 0, none⟩)] 25)).alloc (.cells #[.int .i64 0] 3)).alloc (.cells #[.bool false] 4) = w1 := ⟨_, rfl⟩
  have hB1 : Below w.heap.size w w1 := by
    rw [← hw1]
    exact ((((Below.refl _ _).alloc (Nat.le_refl _) _).alloc (by simp) _).alloc (by simp; omega) _).alloc (by simp; omega) _
  have e1 : (w.alloc (.cells #[.int .i64 (m : Int), .int .i64 f, .int .i64 (n : Int)] 29)).heap.size = w.heap.size + 1 := World.size_alloc _ _
  have e2 : ((w.alloc (.cells #[.int .i64 (m : Int), .int .i64 f, .int .i64 (n : Int)] 29)).alloc (.cells #[.pointer (some ⟨gt, 0, none⟩)] 25)).heap.size = w.heap.size + 1 + 1 := by rw [World.size_alloc, e1]
  have e3 : (((w.alloc (.cells #[.int .i64 (m : Int), .int .i64 f, .int .i64 (n : Int)] 29)).alloc (.cells #[.pointer (some ⟨gt, 0, none⟩)] 25)).alloc (.cells #[.int .i64 0] 3)).heap.size = w.heap.size + 1 + 1 + 1 := by rw [World.size_alloc, e2]
  have b0 : Blk w1 w.heap.size 29 #[.int .i64 (m : Int), .int .i64 f, .int .i64 (n : Int)] := by
    rw [← hw1]; exact (((Blk.new w _ _).alloc _).alloc _).alloc _
  have b1 : Blk w1 (w.heap.size + 1) 25 #[.pointer (some ⟨gt, 0, none⟩)] := by
    rw [← hw1, ← e1]; exact ((Blk.new _ _ _).alloc _).alloc _
  have b2 : Blk w1 (w.heap.size + 1 + 1) 3 #[.int .i64 0] := by
    rw [← hw1, ← e2]; exact (Blk.new _ _ _).alloc _
  have b3 : Blk w1 (w.heap.size + 1 + 1 + 1) 4 #[.bool false] := by
    rw [← hw1, ← e3]; exact Blk.new _ _ _
  have c2 : w1.cell? ⟨w.heap.size + 1 + 1, 0, none⟩ = some (.int .i64 0) := b2.cell 0
  have c3 : w1.cell? ⟨w.heap.size + 1 + 1 + 1, 0, none⟩ = some (.bool false) := b3.cell 0
  have f2' := b2.frozen 0
  have f3' := b3.frozen 0
  have hn23 : w.heap.size + 1 + 1 ≠ w.heap.size + 1 + 1 + 1 := by omega
  have hbx : Hid (TBox ((w1.setCell ⟨w.heap.size + 1 + 1, 0, none⟩ (.int .i64 0)).setCell ⟨w.heap.size + 1 + 1 + 1, 0, none⟩ (.bool false)) gt w.heap.size (w.heap.size + 1) (w.heap.size + 1 + 1) (w.heap.size + 1 + 1 + 1) (m : Int) f (n : Int) 0 false) := Lib.hid ⟨(b0.farN (by omega) 0 _).farN (by omega) 0 _, (b1.farN (by omega) 0 _).farN (by omega) 0 _, (b2.set_ 0 _).farN (by omega) 0 _, (b3.farN (by omega) 0 _).set_ 0 _⟩
  have hBE : Hid (Below w.heap.size w ((w1.setCell ⟨w.heap.size + 1 + 1, 0, none⟩ (.int .i64 0)).setCell ⟨w.heap.size + 1 + 1 + 1, 0, none⟩ (.bool false))) := Lib.hid ((hB1.setCell (p := ⟨w.heap.size + 1 + 1, 0, none⟩) (show w.heap.size ≤ w.heap.size + 1 + 1 by omega) _).setCell (p := ⟨w.heap.size + 1 + 1 + 1, 0, none⟩) (show w.heap.size ≤ w.heap.size + 1 + 1 + 1 by omega) _)
  obtain ⟨wE, hwE⟩ : ∃ wE, (w1.setCell ⟨w.heap.size + 1 + 1, 0, none⟩ (.int .i64 0)).setCell ⟨w.heap.size + 1 + 1 + 1, 0, none⟩ (.bool false) = wE := ⟨_, rfl⟩
  rw [hwE] at hbx hBE
  have hld := load_pool hbx.out.b0
  have d1 : wE.cell? ⟨w.heap.size + 1, 0, none⟩ = some (.pointer (some ⟨gt, 0, none⟩)) := hbx.out.b1.cell 0
  have hNB : (((N - 65 : Nat) : Int)) ≤ 16000 := by omega
  have hsE : w.heap.size + 1 + 1 + 1 < wE.heap.size := hbx.out.b3.lt
  have hEach := each_calls wE (gt := gt) (m := (m : Int)) (f := f) (n := (n : Int)) (b := ((N - 65 : Nat) : Int)) (by omega) hr (kf := 36) (cap := #[.pointer (some ⟨w.heap.size, 0, none⟩), .pointer (some ⟨w.heap.size + 1 + 1, 0, none⟩), .pointer (some ⟨w.heap.size + 1 + 1 + 1, 0, none⟩), .pointer (some ⟨w.heap.size + 1, 0, none⟩)])
    (I := fun k W => Below wE.heap.size wE W ∧ ∀ i, i < k * 4096 → i < n → T i = true)
    (J := fun er W => er = 0 ∧ ∃ i, leastG T n 0 = some i ∧ LT W0 W gl g gt N x V (tput t (m + i / 4096) (turn (tvw x V t (m + i / 4096)) (i % 4096))) X ∧ KeepX X w W ∧ Blk W (w.heap.size + 1 + 1) 3 #[.int .i64 (f + (i : Int))] ∧ Blk W (w.heap.size + 1 + 1 + 1) 4 #[.bool true])
    (fun k W W' hI hb => ⟨hI.1.trans (hb.mono hI.1.size), hI.2⟩) ⟨Below.refl _ _, fun i hi => by omega⟩
    (fun W hb => by
      have hL := h.below (hBE.out.trans (hb.mono hBE.out.size))
      obtain ⟨S, F, ST, FT, g1, g2, _⟩ := hL.ex
      exact TBlocks_calls W g1 g2 (by rw [hL.la.vw.dl]; omega) (by omega))
    (fun W x y z => enters_of Try.func36 (by kernel_rfl) rfl _ W)
    (fun k W hk hI => by
      rw [hmp] at hk
      have hk3 : k < (n - 1) / 4096 + 1 := by omega
      have hWw := hBE.out.trans (hI.1.mono hBE.out.size)
      have hL := h.below hWw
      have hbl512 := tvw_len hL.la hL.tk (n := m + k) (by omega)
      refine ⟨tvw x V t (m + k), hbl512, ?_, fun W' bx cx hb' hI' hO hbx' => ?_⟩
      · have := cTRead hL hN ((m + k : Nat) : Int) (by omega) (by omega)
        rw [treadP_tvw hL.la hN.1 ho (by omega)] at this
        rw [show (m : Int) + (k : Int) = ((m + k : Nat) : Int) by omega]
        exact this
      · obtain ⟨c, hc⟩ : ∃ c : Nat, c = min 4096 (n - k * 4096) := ⟨_, rfl⟩
        have hci : imin 4096 ((n : Int) - (k : Int) * 4096) = (c : Int) := by unfold imin; omega
        have hbit : ∀ j, j < c → bitAt (tvw x V t (m + k)) j = T (k * 4096 + j) := fun j hj => by
          have := hT (k * 4096 + j) (by omega)
          rwa [show (k * 4096 + j) / 4096 = k by omega, show (k * 4096 + j) % 4096 = j by omega] at this
        rw [hci]
        have hW'w := hWw.trans (hb'.mono hWw.size)
        have hbxE := hbx.out.keep (hI'.1)
        cases hlg : leastG (bitAt (tvw x V t (m + k))) c 0 with
        | none =>
          refine (take1_none W' hO hbl512 (by omega) (by omega) hlg).mono ?_
          rintro e w' ⟨rfl, rfl⟩
          refine ⟨fun q _ _ => rfl, Nat.le_refl _, .inl ⟨rfl, hI'.1, fun i hi hin => ?_⟩⟩
          by_cases e : i < k * 4096
          · exact hI'.2 i e hin
          · have := leastG_none hlg (i - k * 4096) (by omega) (by omega)
            rw [hbit _ (by omega)] at this
            rwa [show k * 4096 + (i - k * 4096) = i by omega] at this
        | some j =>
          obtain ⟨s1, s2, s3, s4⟩ := leastG_some hlg
          have hlT : leastG T n 0 = some (k * 4096 + j) := by
            refine leastG_of (Nat.zero_le _) (by omega) ?_ fun i _ hi => ?_
            · rw [← hbit j (by omega)]; exact s3
            · by_cases e : i < k * 4096
              · exact hI'.2 i e (by omega)
              · have := s4 (i - k * 4096) (by omega) (by omega)
                rw [hbit _ (by omega)] at this
                rwa [show k * 4096 + (i - k * 4096) = i by omega] at this
          have hwr := tr_write (N := N) hs (hmb k hk3) hbl (by omega) ho (bs := turn (tvw x V t (m + k)) j) (by rw [turn_len]; exact hbl512)
          have hsz1 := hI'.1.size
          have hszW := hI.1.size
          have hszb := hb'.size
          refine (take1_some w W' h hN hW'w ⟨Nat.le_refl _, by omega, by omega, by omega, by omega⟩ hO hbl512 (by omega) (by omega) ⟨f1, f2⟩ (by omega) hbxE.b0 hbxE.b1 hbxE.b2 hbxE.b3 hlg hwr).mono ?_
          rintro e w' ⟨rfl, r1, r2, r3, r4, r5⟩
          refine ⟨fun q hq1 hq2 => r2 q (.inr ⟨by omega, by omega⟩) (by omega) (by omega) (by omega), r5, .inr ⟨false, 0, rfl, fun _ => rfl, rfl, k * 4096 + j, hlT, ?_, fun q hq => ?_, ?_, r4⟩⟩
          · rw [show (k * 4096 + j) / 4096 = k by omega, show (k * 4096 + j) % 4096 = j by omega]
            exact r1.less fun q hq => .inl hq
          · have hlt := h.xl q hq
            exact (r2 q (.inl hq) (by omega) (by omega) (by omega)).trans (hW'w.block q hlt)
          · rw [show f + ((k * 4096 + j : Nat) : Int) = f + (k : Int) * 4096 + (j : Int) by omega]
            exact r3)
  have hEach := Lib.hid hEach
  have hout : Hid (∀ W, EachOut (fun k W => Below wE.heap.size wE W ∧ ∀ i, i < k * 4096 → i < n → T i = true) (fun er W => er = 0 ∧ ∃ i, leastG T n 0 = some i ∧ LT W0 W gl g gt N x V (tput t (m + i / 4096) (turn (tvw x V t (m + i / 4096)) (i % 4096))) X ∧ KeepX X w W ∧ Blk W (w.heap.size + 1 + 1) 3 #[.int .i64 (f + (i : Int))] ∧ Blk W (w.heap.size + 1 + 1 + 1) 4 #[.bool true]) (mapsP (n : Int)).toNat (.returned (.int .i64 0)) W → (TBox W gt w.heap.size (w.heap.size + 1) (w.heap.size + 1 + 1) (w.heap.size + 1 + 1 + 1) (m : Int) f (n : Int) 0 false ∧ TakeTo W0 w gl g gt N x V t X m f n T (.returned (.tuple #[.int .i64 0, .int .i64 7])) W) ∨
      ∃ i, Blk W (w.heap.size + 1 + 1) 3 #[.int .i64 (f + (i : Nat))] ∧ Blk W (w.heap.size + 1 + 1 + 1) 4 #[.bool true] ∧ TakeTo W0 w gl g gt N x V t X m f n T (.returned (.tuple #[.int .i64 (f + (i : Nat)), .int .i64 0])) W) := Lib.hid fun W hO => by
    rcases hO with ⟨_, hI1, hI2⟩ | ⟨er, he, h0, i, hl, g1, g2, g3, g4⟩
    · refine .inl ⟨hbx.out.keep hI1, ?_⟩
      have hno : leastG T n 0 = none := leastG_all fun k _ hk => hI2 k (by rw [hmp, Int.toNat_natCast]; omega) (by omega)
      unfold TakeTo
      rw [hno]
      have hWw := hBE.out.trans (hI1.mono hBE.out.size)
      exact ⟨rfl, h.below hWw, KeepX.of_below hWw h.xl⟩
    · refine .inr ⟨i, g3, g4, ?_⟩
      unfold TakeTo
      rw [hl]
      exact ⟨rfl, g1, g2⟩
  have hJ0 : Hid (∀ W er, EachOut (fun k W => Below wE.heap.size wE W ∧ ∀ i, i < k * 4096 → i < n → T i = true) (fun er W => er = 0 ∧ ∃ i, leastG T n 0 = some i ∧ LT W0 W gl g gt N x V (tput t (m + i / 4096) (turn (tvw x V t (m + i / 4096)) (i % 4096))) X ∧ KeepX X w W ∧ Blk W (w.heap.size + 1 + 1) 3 #[.int .i64 (f + (i : Int))] ∧ Blk W (w.heap.size + 1 + 1 + 1) 4 #[.bool true]) (mapsP (n : Int)).toNat er W → er = .returned (.int .i64 0)) := Lib.hid fun W er hO => by
    rcases hO with ⟨rfl, _⟩ | ⟨er, rfl, h0, _⟩
    · rfl
    · have h0 : er = 0 := h0
      rw [h0]
  clear h hT hs hmb hbx hBE hpp hr hmp b0 b1 b2 b3 e1 e2 e3 hB1
  go_enter Try.func10, Try.ntmps10
  go_wp2_with (with_reducible refine stop_load 29 ?_)
  refine Stop.mk (wpList_load_cells rfl rfl rfl hld ?_)
  clear hld hw1 hwE c2 c3 f2' f3'
  go_wp2_with fail
  refine hEach.out.mono ?_
  intro e w5 hO
  obtain rfl := hJ0.out w5 e hO
  rcases hout.out w5 hO with ⟨hbx5, hT5⟩ | ⟨i, g3, g4, hT5⟩
  · have k3 : w5.cell? ⟨w.heap.size + 1 + 1 + 1, 0, none⟩ = some (.bool false) := hbx5.b3.cell 0
    have hT5 := Lib.hid hT5
    clear hEach hout hJ0 hO hbx5
    go_wp2
    go_ret2
    exact hT5.out
  · have k3 : w5.cell? ⟨w.heap.size + 1 + 1 + 1, 0, none⟩ = some (.bool true) := g4.cell 0
    have k2 : w5.cell? ⟨w.heap.size + 1 + 1, 0, none⟩ = some (.int .i64 (f + (i : Nat))) := g3.cell 0
    have hT5 := Lib.hid hT5
    obtain ⟨v, hv⟩ : ∃ v, Hid (f + ((i : Nat) : Int) = v) := ⟨_, Lib.hid rfl⟩
    rw [hv.out] at k2 hT5
    clear hEach hout hJ0 hO g3 g4
    go_wp2
    go_ret2
    exact hT5.out
end Go.Proofs.Ytefbmbfhhhjgkaa
namespace Go.Proofs.Ytefbmbfhhhjgkaa
open Go.RowKit
/-- A region that draws its order, staged, whose last operation waits for all. -/
theorem wp_mixs_tail {P : Program} {id : Nat} {Q : Exit → Act → World → Prop} {a : Act} {w : World} {l : List Oper} (C : World → Prop) (lou : List Nat) (hm : P.follows .mixedOrders = true) (hB : Region.lexB .any l.toArray = true)
    (hL : loudOk2 .any l.toArray lou l.length 0 (Array.replicate l.length false) = true) (hn : lou.Nodup) (hT : lastOk l.toArray = true) (hC : C w.drew)
    (h : wpMixS P l.toArray (stg .any l.toArray lou) lou (fun k => k + 1 == l.toArray.size) (fun a' w' => Q .normal a' w') 0 l (fun _ => C) 0 a w.drew) : (Code.region id l.toArray true).wp P Q a w := by
  simp only [Region.lexB, Bool.and_eq_true] at hB
  refine wp_region_any hm (wpAny_of_mixS (st := stg .any l.toArray lou) (lou := lou) (fin := fun k => k + 1 == l.toArray.size) (fin_of_lastOk hT) (Q := fun a' w' => Q .normal a' w') (fun _ _ h => h) _ _ (fun _ => C) 0 _ _ (down_start _) (fun _ _ => hC) ?_)
  have hz : cnt lou (Array.replicate l.toArray.size false) ≤ 0 := by
    unfold cnt
    rw [List.countP_eq_zero.2]
    · exact Nat.le_refl _
    · intro k _
      rcases Nat.lt_or_ge k l.toArray.size with h' | h' <;> simp at h' ⊢ <;> simp [h']
  have := wpAnyS_lex (P := P) (md := .any) (fin := fun k => k + 1 == l.toArray.size) hB.1 hn (fun k hk => by simpa using hk) l 0 (Array.replicate l.toArray.size false) (fun _ => C) 0 a w.drew (fun _ _ => hC) (down_start _) hz (by simp) (by simpa using hB.2) (by simpa using hL) h
  simpa using this
/-- The first k blocks of a map are of bytes 0. -/
def clrT (t : Tk) (m k : Nat) : Tk := ⟨fun j => if m ≤ j ∧ j < m + k then some zblk else t.m j, t.ov⟩
theorem clrT_0 (t : Tk) (m : Nat) : clrT t m 0 = t := by
  have : (fun j => if m ≤ j ∧ j < m + 0 then some zblk else t.m j) = t.m := funext fun j => by rw [if_neg (by omega)]
  unfold clrT
  rw [this]
theorem clrT_succ (t : Tk) (m k : Nat) : tput (clrT t m k) (m + k) zblk = clrT t m (k + 1) := by
  unfold clrT tput
  congr 1
  funext j
  by_cases e : j = m + k
  · rw [if_pos e, if_pos (by omega)]
  · rw [if_neg e]
    show (if m ≤ j ∧ j < m + k then some zblk else t.m j) = _
    by_cases e2 : m ≤ j ∧ j < m + k
    · rw [if_pos e2, if_pos (by omega)]
    · rw [if_neg e2, if_neg (by omega)]
theorem clrT_sub {t : Tk} {bl : List Nat} (h : TSub bl t) {m k : Nat} (hm : ∀ j, j < k → m + j ∈ bl) : TSub bl (clrT t m k) := fun j hj => by
  have hj : ((if m ≤ j ∧ j < m + k then some zblk else t.m j) : Option (List UInt8)).isSome = true := hj
  by_cases e : m ≤ j ∧ j < m + k
  · have := hm (j - m) (by omega)
    rwa [show m + (j - m) = j by omega] at this
  · rw [if_neg e] at hj
    exact h j hj
theorem tvw_clr (x : Lk) (V : Nat → List UInt8) (t : Tk) (m k n : Nat) : tvw x V (clrT t m k) n = if m ≤ n ∧ n < m + k then zblk else tvw x V t n := by
  show ((if m ≤ n ∧ n < m + k then some zblk else t.m n) : Option (List UInt8)).getD _ = _
  split <;> rfl
theorem bitAt_zblk (i : Nat) : bitAt zblk i = false := by
  unfold bitAt zblk
  rw [List.getD_eq_getElem?_getD, List.getElem?_replicate]
  split <;> exact Nat.zero_testBit _
theorem PB.clear (x : Lk) (V : Nat → List UInt8) (t : Tk) (m n : Nat) (hn : 1 ≤ n) : PB (tvw x V (clrT t m ((n - 1) / 4096 + 1))) m n (fun _ => false) := fun i hi => by
  rw [tvw_clr, if_pos (by omega), bitAt_zblk]
set_option maxRecDepth 10000 in
set_option maxHeartbeats 8000000 in
theorem clear1_calls (W : World) {W0 : World} {gl g gt N : Nat} {x : Lk} {V : Nat → List UInt8} {t : Tk} {Y : Nat → Prop} (h : LT W0 W gl g gt N x V t Y) (hN : 65 < N ∧ N ≤ 16000) {f n : Int} {m q0 q1 k : Nat} {b c : Value} (hk : k ≤ 3) (hm : m + k < N - 65)
    (b0 : Blk W q0 29 #[.int .i64 (m : Int), .int .i64 f, .int .i64 n]) (b1 : Blk W q1 25 #[.pointer (some ⟨gt, 0, none⟩)]) (hY : Y q0 ∧ Y q1)
    (hw : twriteP (N - 65) t ((m + k : Nat) : Int) zblk = (0, tput t (m + k) zblk)) :
    Calls Try.prog 34 #[.int .i64 (k : Int), b, c, .pointer (some ⟨q1, 0, none⟩), .pointer (some ⟨q0, 0, none⟩)] W fun e W' => e = .returned (.tuple #[.bool true, .int .i64 0]) ∧ LT W0 W' gl g gt N x V (tput t (m + k) zblk) Y ∧ KeepX Y W W' := by
  obtain ⟨i0, hi, hz0, hz1, hz2⟩ := info_parts Try.info_u8
  have hzl : (List.replicate 512 (Value.int .u8 0)) = bvs zblk := by rw [zblk_bvs]
  have hmk : ∀ W : World, (Instr.makeSlice 63 (.int .i64 512) (.int .i64 512)).run Try.prog W = .ok (.slice (some ⟨W.heap.size, 0, none⟩) 512 512) (W.alloc (.cells (bvs zblk).toArray 5)) := by
    rw [← hzl]
    exact run_mkr (P := Try.prog) 63 5 i0 (.int .u8 0) Try.underlying63 hi hz0 rfl hz1 512 (by rw [hz2]; omega) (by omega)
  have hrd : Hid (∀ W : World, Rd (W.alloc (.cells (bvs zblk).toArray 5)) (.slice (some ⟨W.heap.size, 0, none⟩) 512 512) (bvs zblk)) := Lib.hid fun W => rd_new W (bvs zblk) 5 512 (by rw [bvs_length, zblk_len])
  have hhd := h.below ((Below.refl _ W).drew)
  have hL := hhd.below ((Below.refl _ W.drew).alloc (Nat.le_refl _) (.cells (bvs zblk).toArray 5))
  have hW := cWrite hL hN ((m + k : Nat) : Int) (by omega) (by omega) _ zblk (hrd.out W.drew) (by rw [zblk_len]; omega)
  rw [hw] at hW
  have emk : ((m + k : Nat) : Int) = (m : Int) + (k : Int) := by omega
  rw [emk] at hW
  have hW := Lib.hid hW
  have hxl := Lib.hid h.xl
  have ewr : IntKind.i64.wrap ((m : Int) + (k : Int)) = (m : Int) + (k : Int) := by rw [IntKind.wrap_i64]; omega
  obtain ⟨zc, hzc⟩ : ∃ zc, Hid ((bvs zblk).toArray = zc) := ⟨_, Lib.hid rfl⟩
  rw [hzc.out] at hmk hW
  have hN' := Lib.hid hN
  have hbh := Lib.hid (And.intro b0 b1)
  clear h hhd hL hw hrd hi hz0 hz1 hz2 hzl b0 b1 hzc
  go_enter Try.func34, Try.ntmps34
  go_wp2_with fail
  refine wp_mixs (fun U => Blk U q0 29 #[.int .i64 (m : Int), .int .i64 f, .int .i64 n] ∧ Blk U q1 25 #[.pointer (some ⟨gt, 0, none⟩)]) [5, 6] (by kernel_rfl) (by kernel_rfl) (by kernel_rfl) (by decide) (show Blk W.drew _ _ _ ∧ Blk W.drew _ _ _ from hbh.out) ?_
  iterate 5 ((first | refine mixsq rfl rfl 0 (by decide +kernel) ?_ (fun w' hw' => Or.inl ?_) (fun K hK => ?_) | refine mixsq rfl rfl 1 (by decide +kernel) ?_ (fun w' hw' => Or.inl ?_) (fun K hK => ?_) | refine mixsq rfl rfl 2 (by decide +kernel) ?_ (fun w' hw' => Or.inl ?_) (fun K hK => ?_) | refine mixsq rfl rfl 3 (by decide +kernel) ?_ (fun w' hw' => Or.inl ?_) (fun K hK => ?_) | refine mixsq rfl rfl 4 (by decide +kernel) ?_ (fun w' hw' => Or.inl ?_) (fun K hK => ?_) | refine mixsq rfl rfl 5 (by decide +kernel) ?_ (fun w' hw' => Or.inl ?_) (fun K hK => ?_) | refine mixsq rfl rfl 6 (by decide +kernel) ?_ (fun w' hw' => Or.inl ?_) (fun K hK => ?_) | refine mixsq rfl rfl 7 (by decide +kernel) ?_ (fun w' hw' => Or.inl ?_) (fun K hK => ?_)); rotate_left; (focus (have hc : Blk w' q0 29 #[.int .i64 (m : Int), .int .i64 f, .int .i64 n] ∧ Blk w' q1 25 #[.pointer (some ⟨gt, 0, none⟩)] := hw'; have c0 := hc.1.cell 0; have c1 := hc.2.cell 0; go_simp; rfl)); go_simp; refine hK _ ?_; clear hK K)
  refine mixsl rfl rfl (fun K hK => ?_)
  have hmk1 := hmk W.drew
  go_simp
  have hb2 : Blk (W.drew.alloc (.cells zc 5)) q0 29 #[.int .i64 (m : Int), .int .i64 f, .int .i64 n] ∧ Blk (W.drew.alloc (.cells zc 5)) q1 25 #[.pointer (some ⟨gt, 0, none⟩)] := ⟨hbh.out.1.drew.alloc _, hbh.out.2.drew.alloc _⟩
  refine hK (fun U => Blk U q0 29 #[.int .i64 (m : Int), .int .i64 f, .int .i64 n] ∧ Blk U q1 25 #[.pointer (some ⟨gt, 0, none⟩)]) _ _ (fun _ => ⟨hb2, fun _ => hb2⟩) ?_
  clear hK K hmk1
  refine mixsl rfl rfl (fun K hK => ?_)
  go_simp
  refine hW.out.mono ?_
  rintro e w3 ⟨rfl, hL3, hK3⟩
  have hb3 : Blk w3 q0 29 #[.int .i64 (m : Int), .int .i64 f, .int .i64 n] ∧ Blk w3 q1 25 #[.pointer (some ⟨gt, 0, none⟩)] := ⟨hK3.blk hb2.1 hY.1, hK3.blk hb2.2 hY.2⟩
  have hKf : Hid (KeepX Y W w3) := Lib.hid fun j hj => (hK3 j hj).trans (Below.heap_alloc W.drew _ j (hxl.out j hj))
  have hLf := Lib.hid hL3
  refine hK (fun U => True) _ _ (fun _ => ⟨trivial, ext_all (fun _ => hb3) hb3⟩) ?_
  clear hK K hb2 hb3 hL3 hK3 hW
  iterate 2 ((first | refine mixsq rfl rfl 0 (by decide +kernel) ?_ (fun w' hw' => Or.inl ?_) (fun K hK => ?_) | refine mixsq rfl rfl 1 (by decide +kernel) ?_ (fun w' hw' => Or.inl ?_) (fun K hK => ?_) | refine mixsq rfl rfl 2 (by decide +kernel) ?_ (fun w' hw' => Or.inl ?_) (fun K hK => ?_) | refine mixsq rfl rfl 3 (by decide +kernel) ?_ (fun w' hw' => Or.inl ?_) (fun K hK => ?_) | refine mixsq rfl rfl 4 (by decide +kernel) ?_ (fun w' hw' => Or.inl ?_) (fun K hK => ?_) | refine mixsq rfl rfl 5 (by decide +kernel) ?_ (fun w' hw' => Or.inl ?_) (fun K hK => ?_) | refine mixsq rfl rfl 6 (by decide +kernel) ?_ (fun w' hw' => Or.inl ?_) (fun K hK => ?_) | refine mixsq rfl rfl 7 (by decide +kernel) ?_ (fun w' hw' => Or.inl ?_) (fun K hK => ?_)); rotate_left; (focus (go_simp; rfl)); go_simp; refine hK _ ?_; clear hK K)
  refine mixs_nil ?_
  go_wp2
  go_ret2
  exact ⟨rfl, hLf.out, hKf.out⟩
def ClearTo (W0 w : World) (gl g gt N : Nat) (x : Lk) (V : Nat → List UInt8) (t : Tk) (X : Nat → Prop) (e : Ending) (w' : World) : Prop := e = .returned (.int .i64 0) ∧ LT W0 w' gl g gt N x V t X ∧ KeepX X w w'
set_option maxRecDepth 100000 in
set_option maxHeartbeats 8000000 in
theorem Clear_calls {W0 w : World} {gl g gt N : Nat} {x : Lk} {V : Nat → List UInt8} {t : Tk} {X : Nat → Prop} (h : LT W0 w gl g gt N x V t X) (hN : 65 < N ∧ N ≤ 16000) (ho : t.ov = false) {m n : Nat} {f : Int} (hp : PoolOk (N - 65) m f n) {bl : List Nat} (hs : TSub bl t) (hbl : bl.length ≤ 63) (hmb : ∀ k, k < (n - 1) / 4096 + 1 → m + k ∈ bl) :
    Calls Try.prog 9 #[.agg #[.int .i64 (m : Int), .int .i64 f, .int .i64 (n : Int)], .pointer (some ⟨gt, 0, none⟩)] w (ClearTo W0 w gl g gt N x V (clrT t m ((n - 1) / 4096 + 1)) X) := by
  obtain ⟨hr, hmp⟩ := hp.right (by omega)
  obtain ⟨⟨f1, f2⟩, ⟨n1, n2⟩, m1⟩ := hp
  obtain ⟨wE, hwE⟩ : ∃ wE, (w.alloc (.cells #[.int .i64 (m : Int), .int .i64 f, .int .i64 (n : Int)] 29)).alloc (.cells #[.pointer (some ⟨gt, 0, none⟩)] 25) = wE := ⟨_, rfl⟩
  have hBE : Below w.heap.size w wE := by
    rw [← hwE]
    exact ((Below.refl _ _).alloc (Nat.le_refl _) _).alloc (by simp) _
  have e1 : (w.alloc (.cells #[.int .i64 (m : Int), .int .i64 f, .int .i64 (n : Int)] 29)).heap.size = w.heap.size + 1 := World.size_alloc _ _
  have b0 : Blk wE w.heap.size 29 #[.int .i64 (m : Int), .int .i64 f, .int .i64 (n : Int)] := by
    rw [← hwE]; exact (Blk.new w _ _).alloc _
  have b1 : Blk wE (w.heap.size + 1) 25 #[.pointer (some ⟨gt, 0, none⟩)] := by
    rw [← hwE, ← e1]; exact Blk.new _ _ _
  have hld := load_pool b0
  have d1 : wE.cell? ⟨w.heap.size + 1, 0, none⟩ = some (.pointer (some ⟨gt, 0, none⟩)) := b1.cell 0
  have hsE := b1.lt
  have hEach := each_calls wE (gt := gt) (m := (m : Int)) (f := f) (n := (n : Int)) (b := ((N - 65 : Nat) : Int)) (by omega) hr (kf := 34) (cap := #[.pointer (some ⟨w.heap.size + 1, 0, none⟩), .pointer (some ⟨w.heap.size, 0, none⟩)])
    (I := fun k W => ∃ U, LT W0 U gl g gt N x V (clrT t m k) (fun j => (X j ∨ j = w.heap.size ∨ j = w.heap.size + 1) ∨ (j = wE.heap.size ∧ j < U.heap.size)) ∧ Below U.heap.size U W ∧ KeepX (fun j => X j ∨ j = w.heap.size ∨ j = w.heap.size + 1) wE W ∧ wE.heap.size ≤ U.heap.size)
    (J := fun _ _ => False)
    (fun k W W' hI hb => by
      obtain ⟨U, a1, a2, a3, a4⟩ := hI
      exact ⟨U, a1, a2.trans (hb.mono a2.size), a3.trans fun j hj => hb.block j (by
        have := a1.xl j (.inl hj)
        have := a2.size
        omega), a4⟩)
    ⟨wE, by
      rw [clrT_0]
      refine h.more hBE fun j hj => ?_
      rcases hj with (e | e | e) | ⟨e, e2⟩
      · exact .inl e
      · exact .inr (by omega)
      · exact .inr (by omega)
      · omega, Below.refl _ _, KeepX.refl _ _, Nat.le_refl _⟩
    (fun W hb => by
      have hL := h.below (hBE.trans (hb.mono hBE.size))
      obtain ⟨S, F, ST, FT, g1, g2, _⟩ := hL.ex
      exact TBlocks_calls W g1 g2 (by rw [hL.la.vw.dl]; omega) (by omega))
    (fun W x y z => enters_of Try.func34 (by kernel_rfl) rfl _ W)
    (fun k W hk hI => by
      rw [hmp] at hk
      have hk3 : k < (n - 1) / 4096 + 1 := by omega
      obtain ⟨U, a1, a2, a3, a4⟩ := hI
      have hL := a1.below a2
      have hbl512 := tvw_len hL.la hL.tk (n := m + k) (by omega)
      refine ⟨tvw x V (clrT t m k) (m + k), hbl512, ?_, fun W' bx cx hb' hI' hO hbx' => ?_⟩
      · have := cTRead hL hN ((m + k : Nat) : Int) (by omega) (by omega)
        rw [treadP_tvw (t := clrT t m k) hL.la hN.1 ho (by omega)] at this
        rw [show (m : Int) + (k : Int) = ((m + k : Nat) : Int) by omega]
        exact this
      · obtain ⟨U', c1, c2, c3, c4⟩ := hI'
        have hwr := tr_write (N := N) (clrT_sub hs (m := m) (k := k) fun j hj => hmb j (by omega)) (hmb k hk3) hbl (by omega) ho (bs := zblk) zblk_len
        have hbl2 := Own8.lt hO bx rfl
        have hsU := c2.size
        have hsW := a2.size
        have hUW := a2.trans (hb'.mono a2.size)
        have hL' : LT W0 W' gl g gt N x V (clrT t m k) (fun j => ((X j ∨ j = w.heap.size ∨ j = w.heap.size + 1) ∨ j = wE.heap.size) ∨ j = W'.heap.size - 1) := a1.more hUW fun j hj => by
          rcases hj with (e | e) | e
          · exact .inl (.inl e)
          · by_cases e2 : j < U.heap.size
            · exact .inl (.inr ⟨e, e2⟩)
            · exact .inr ⟨by omega, by omega⟩
          · exact .inr ⟨by omega, by omega⟩
        refine (clear1_calls W' hL' hN (by omega) (by omega) (c3.blk b0 (.inr (.inl rfl))) (c3.blk b1 (.inr (.inr rfl))) ⟨.inl (.inl (.inr (.inl rfl))), .inl (.inl (.inr (.inr rfl)))⟩ hwr).mono ?_
        rintro e w' ⟨rfl, r1, r2⟩
        rw [clrT_succ] at r1
        have hsz := r1.xl (W'.heap.size - 1) (.inr rfl)
        exact ⟨fun q hq1 _ => r2 q (.inl (.inr hq1)), by omega, .inl ⟨rfl, w', r1.less fun j hj => .inl (hj.imp id fun e => e.1), Below.refl _ _, c3.trans fun j hj => r2 j (.inl (.inl hj)), by omega⟩⟩)
  have hEach := Lib.hid hEach
  rw [hmp, Int.toNat_natCast] at hEach
  clear hmp hr
  go_enter Try.func9, Try.ntmps9
  go_wp2_with (with_reducible refine stop_load 29 ?_)
  refine Stop.mk (wpList_load_cells rfl rfl rfl hld ?_)
  clear hld hwE
  go_wp2_with fail
  refine hEach.out.mono ?_
  rintro e w5 (⟨rfl, U, a1, a2, a3, a4⟩ | ⟨er, rfl, hJ⟩)
  · have hfin : Hid (ClearTo W0 w gl g gt N x V (clrT t m ((n - 1) / 4096 + 1)) X (.returned (.int .i64 0)) w5) := Lib.hid ⟨rfl, (a1.below a2).less fun j hj => .inl (.inl hj), fun j hj => (a3 j (.inl hj)).trans (hBE.block j (h.xl j hj))⟩
    clear hEach a1 a2 a3 h b0 b1 hBE
    go_wp2
    go_ret
    exact hfin.out
  · exact absurd hJ id
set_option maxRecDepth 10000 in
set_option maxHeartbeats 4000000 in
theorem free1_calls (W : World) {q k bx cx c : Nat} {v : Int} {bk : List UInt8} (hv : 0 ≤ v ∧ v ≤ 1000000) (hO : Own8 W (.slice (some ⟨bx, 0, none⟩) 512 cx) bk) (hl : bk.length = 512) (hc : c ≤ 4096) (b0 : Blk W q 3 #[.int .i64 v]) :
    Calls Try.prog 41 #[.int .i64 (k : Int), .slice (some ⟨bx, 0, none⟩) 512 cx, .int .i64 (c : Int), .pointer (some ⟨q, 0, none⟩)] W fun e W' => e = .returned (.tuple #[.bool true, .int .i64 0]) ∧ Chg (fun j => j = q) W W' ∧ Blk W' q 3 #[.int .i64 (v - (cntT (bitAt bk) c : Int))] := by
  have hC := Lib.hid (fun (U : World) (hB : Below W.heap.size W U) => count_calls U (.slice (some ⟨bx, 0, none⟩) 512 cx) bk 0 (c : Int) (hO.rd.below hB) (by omega) (by omega) (by omega) (by omega) (by omega))
  rw [count_eq hl hc] at hC
  have hcl := cntT_le (bitAt bk) c
  obtain ⟨K, hK⟩ : ∃ K, Hid (cntT (bitAt bk) c = K) := ⟨_, Lib.hid rfl⟩
  rw [hK.out] at hC hcl ⊢
  have hwr : IntKind.i64.wrap (v - (K : Int)) = v - (K : Int) := by rw [IntKind.wrap_i64]; omega
  have b0h := Lib.hid b0
  clear hO hK b0
  go_enter Try.func41, Try.ntmps41
  go_wp2_with fail
  refine wp_mixs_tail (fun U => Below W.heap.size W U) [3, 5] (by kernel_rfl) (by kernel_rfl) (by kernel_rfl) (by decide) (by kernel_rfl) (Below.refl _ _).drew ?_
  iterate 3 ((first | refine mixsq rfl rfl 0 (by decide +kernel) ?_ (fun w' hw' => Or.inl ?_) (fun K hK => ?_) | refine mixsq rfl rfl 1 (by decide +kernel) ?_ (fun w' hw' => Or.inl ?_) (fun K hK => ?_) | refine mixsq rfl rfl 2 (by decide +kernel) ?_ (fun w' hw' => Or.inl ?_) (fun K hK => ?_) | refine mixsq rfl rfl 3 (by decide +kernel) ?_ (fun w' hw' => Or.inl ?_) (fun K hK => ?_) | refine mixsq rfl rfl 4 (by decide +kernel) ?_ (fun w' hw' => Or.inl ?_) (fun K hK => ?_) | refine mixsq rfl rfl 5 (by decide +kernel) ?_ (fun w' hw' => Or.inl ?_) (fun K hK => ?_) | refine mixsq rfl rfl 6 (by decide +kernel) ?_ (fun w' hw' => Or.inl ?_) (fun K hK => ?_) | refine mixsq rfl rfl 7 (by decide +kernel) ?_ (fun w' hw' => Or.inl ?_) (fun K hK => ?_)); rotate_left; (focus (have hb : Below W.heap.size W w' := hw'; have c0 := Blk.cell ((hb.block _ b0h.out.lt).trans b0h.out) 0; go_simp; rfl)); go_simp; refine hK _ ?_; clear hK K)
  refine mixsl rfl rfl (fun K hK => ?_)
  go_simp
  refine (hC.out W.drew (Below.refl _ _).drew).mono ?_
  rintro e w2 ⟨rfl, rfl⟩
  refine hK (fun U => Below W.heap.size W U) _ _ (fun _ => ⟨(Below.refl _ _).drew, fun _ => (Below.refl _ _).drew⟩) ?_
  clear hK K
  (first | refine mixsq rfl rfl 0 (by decide +kernel) ?_ (fun w' hw' => Or.inl ?_) (fun K hK => ?_) | refine mixsq rfl rfl 1 (by decide +kernel) ?_ (fun w' hw' => Or.inl ?_) (fun K hK => ?_) | refine mixsq rfl rfl 2 (by decide +kernel) ?_ (fun w' hw' => Or.inl ?_) (fun K hK => ?_) | refine mixsq rfl rfl 3 (by decide +kernel) ?_ (fun w' hw' => Or.inl ?_) (fun K hK => ?_) | refine mixsq rfl rfl 4 (by decide +kernel) ?_ (fun w' hw' => Or.inl ?_) (fun K hK => ?_) | refine mixsq rfl rfl 5 (by decide +kernel) ?_ (fun w' hw' => Or.inl ?_) (fun K hK => ?_) | refine mixsq rfl rfl 6 (by decide +kernel) ?_ (fun w' hw' => Or.inl ?_) (fun K hK => ?_) | refine mixsq rfl rfl 7 (by decide +kernel) ?_ (fun w' hw' => Or.inl ?_) (fun K hK => ?_)); rotate_left; (focus (go_simp; rfl)); go_simp; refine hK _ ?_; clear hK K
  refine mixsl rfl rfl (fun K hK => ?_)
  have c0 : W.cell? ⟨q, 0, none⟩ = some (.int .i64 v) := b0h.out.cell 0
  have f0 := b0h.out.frozen 0
  go_simp
  refine hK (fun _ => True) _ _ (fun h => absurd h (by decide)) ?_
  clear hK K
  refine mixs_nil ?_
  have hc1 : Chg (fun j => j = q) W ((W.setCell ⟨q, 0, none⟩ (.int .i64 (v - (K : Int)))).drew) := (chg_set (w := W) ⟨q, 0, none⟩ _).drew
  have hb1 : Blk ((W.setCell ⟨q, 0, none⟩ (.int .i64 (v - (K : Int)))).drew) q 3 #[.int .i64 (v - (K : Int))] := (b0h.out.set_ 0 _).drew
  have hc1 := Lib.hid hc1
  have hb1 := Lib.hid hb1
  go_wp2
  go_ret2
  exact ⟨rfl, hc1.out, hb1.out⟩
def FreeTo (w : World) (v : Int) (e : Ending) (w' : World) : Prop := e = .returned (.tuple #[.int .i64 v, .int .i64 0]) ∧ Below w.heap.size w w'
set_option maxRecDepth 100000 in
set_option maxHeartbeats 8000000 in
theorem Free_calls {W0 w : World} {gl g gt N : Nat} {x : Lk} {V : Nat → List UInt8} {t : Tk} {X : Nat → Prop} (h : LT W0 w gl g gt N x V t X) (hN : 65 < N ∧ N ≤ 16000) (ho : t.ov = false) {m n : Nat} {f : Int} (hp : PoolOk (N - 65) m f n) {T : Nat → Bool} (hT : PB (tvw x V t) m n T) :
    Calls Try.prog 12 #[.agg #[.int .i64 (m : Int), .int .i64 f, .int .i64 (n : Int)], .pointer (some ⟨gt, 0, none⟩)] w (FreeTo w ((n : Int) - (cntT T n : Int))) := by
  obtain ⟨hr, hmp⟩ := hp.right (by omega)
  obtain ⟨⟨f1, f2⟩, ⟨n1, n2⟩, m1⟩ := hp
  obtain ⟨w1, hw1⟩ : ∃ w1, (w.alloc (.cells #[.int .i64 (m : Int), .int .i64 f, .int .i64 (n : Int)] 29)).alloc (.cells #[.int .i64 0] 3) = w1 := ⟨_, rfl⟩
  have e1 : (w.alloc (.cells #[.int .i64 (m : Int), .int .i64 f, .int .i64 (n : Int)] 29)).heap.size = w.heap.size + 1 := World.size_alloc _ _
  have hB1 : Below w.heap.size w w1 := by
    rw [← hw1]
    exact ((Below.refl _ _).alloc (Nat.le_refl _) _).alloc (by simp) _
  have b0 : Blk w1 w.heap.size 29 #[.int .i64 (m : Int), .int .i64 f, .int .i64 (n : Int)] := by
    rw [← hw1]; exact (Blk.new w _ _).alloc _
  have b1 : Blk w1 (w.heap.size + 1) 3 #[.int .i64 0] := by
    rw [← hw1, ← e1]; exact Blk.new _ _ _
  have c1 : w1.cell? ⟨w.heap.size + 1, 0, none⟩ = some (.int .i64 0) := b1.cell 0
  have f1' := b1.frozen 0
  have c2 : w1.cell? ⟨w.heap.size, 2, none⟩ = some (.int .i64 (n : Int)) := b0.cell 2
  have b0E := b0.farN (b := w.heap.size + 1) (by omega) 0 (.int .i64 (n : Int))
  have b1E : Blk (w1.setCell ⟨w.heap.size + 1, 0, none⟩ (.int .i64 (n : Int))) (w.heap.size + 1) 3 #[.int .i64 (n : Int)] := b1.set_ 0 _
  have hBE := hB1.setCell (p := ⟨w.heap.size + 1, 0, none⟩) (show w.heap.size ≤ w.heap.size + 1 by omega) (.int .i64 (n : Int))
  obtain ⟨wE, hwE⟩ : ∃ wE, w1.setCell ⟨w.heap.size + 1, 0, none⟩ (.int .i64 (n : Int)) = wE := ⟨_, rfl⟩
  rw [hwE] at b0E b1E hBE
  have hld := load_pool b0E
  have hsE := b1E.lt
  have hEach := each_calls wE (gt := gt) (m := (m : Int)) (f := f) (n := (n : Int)) (b := ((N - 65 : Nat) : Int)) (by omega) hr (kf := 41) (cap := #[.pointer (some ⟨w.heap.size + 1, 0, none⟩)])
    (I := fun k W => Below w.heap.size w W ∧ Blk W (w.heap.size + 1) 3 #[.int .i64 ((n : Int) - (cntT T (min (k * 4096) n) : Int))])
    (J := fun _ _ => False)
    (fun k W W' hI hb => ⟨hI.1.trans (hb.mono hI.1.size), (hb.block _ hI.2.lt).trans hI.2⟩)
    ⟨hBE, by rw [show min (0 * 4096) n = 0 by omega]; exact b1E⟩
    (fun W hb => by
      have hL := h.below (hBE.trans (hb.mono hBE.size))
      obtain ⟨S, F, ST, FT, g1, g2, _⟩ := hL.ex
      exact TBlocks_calls W g1 g2 (by rw [hL.la.vw.dl]; omega) (by omega))
    (fun W x y z => enters_of Try.func41 (by kernel_rfl) rfl _ W)
    (fun k W hk hI => by
      rw [hmp] at hk
      have hL := h.below hI.1
      have hbl512 := tvw_len hL.la hL.tk (n := m + k) (by omega)
      refine ⟨tvw x V t (m + k), hbl512, ?_, fun W' bx cx hb' hI' hO hbx' => ?_⟩
      · have := cTRead hL hN ((m + k : Nat) : Int) (by omega) (by omega)
        rw [treadP_tvw hL.la hN.1 ho (by omega)] at this
        rw [show (m : Int) + (k : Int) = ((m + k : Nat) : Int) by omega]
        exact this
      · obtain ⟨c, hc⟩ : ∃ c : Nat, c = min 4096 (n - k * 4096) := ⟨_, rfl⟩
        have hci : imin 4096 ((n : Int) - (k : Int) * 4096) = (c : Int) := by unfold imin; omega
        have hbit : ∀ j, j < c → bitAt (tvw x V t (m + k)) j = T (k * 4096 + j) := fun j hj => by
          have := hT (k * 4096 + j) (by omega)
          rwa [show (k * 4096 + j) / 4096 = k by omega, show (k * 4096 + j) % 4096 = j by omega] at this
        rw [hci]
        have hcl := cntT_le T (min (k * 4096) n)
        refine (free1_calls W' (v := (n : Int) - (cntT T (min (k * 4096) n) : Int)) (by omega) hO hbl512 (by omega) hI'.2).mono ?_
        rintro e w' ⟨rfl, r1, r2⟩
        have ecnt : cntT T (min ((k + 1) * 4096) n) = cntT T (min (k * 4096) n) + cntT (bitAt (tvw x V t (m + k))) c := by
          rw [show min ((k + 1) * 4096) n = k * 4096 + c by omega, show min (k * 4096) n = k * 4096 by omega, cntT_add, cntT_congr (n := c) hbit]
        refine ⟨fun q hq1 hq2 => r1.block q (by have := hb'.size; omega) (by omega), r1.size, .inl ⟨rfl, hI'.1.trans (r1.below hI'.1.size (fun j hj => by omega)), ?_⟩⟩
        rw [ecnt]
        rw [show (n : Int) - ((cntT T (min (k * 4096) n) + cntT (bitAt (tvw x V t (m + k))) c : Nat) : Int) = (n : Int) - (cntT T (min (k * 4096) n) : Int) - (cntT (bitAt (tvw x V t (m + k))) c : Int) by omega]
        exact r2)
  have hEach := Lib.hid hEach
  have ek : (mapsP (n : Int)).toNat = (n - 1) / 4096 + 1 := by rw [hmp, Int.toNat_natCast]
  rw [ek] at hEach
  have efin : min (((n - 1) / 4096 + 1) * 4096) n = n := by omega
  obtain ⟨v, hv⟩ : ∃ v, Hid ((n : Int) - (cntT T n : Int) = v) := ⟨_, Lib.hid rfl⟩
  rw [hv.out]
  clear hmp hr b0 b1 hB1 e1
  go_enter Try.func12, Try.ntmps12
  go_wp2_with (with_reducible refine stop_load 29 ?_)
  refine Stop.mk (wpList_load_cells rfl rfl rfl hld ?_)
  clear hld hw1 hwE c1 f1' c2
  go_wp2_with fail
  refine hEach.out.mono ?_
  rintro e w5 (⟨rfl, a1, a2⟩ | ⟨er, rfl, hJ⟩)
  · rw [efin, hv.out] at a2
    have k1 : w5.cell? ⟨w.heap.size + 1, 0, none⟩ = some (.int .i64 v) := a2.cell 0
    have hfin := Lib.hid a1
    clear hEach a1 a2 h b0E b1E hBE efin
    go_wp2
    go_ret2
    exact ⟨rfl, hfin.out⟩
  · exact absurd hJ id
end Go.Proofs.Ytefbmbfhhhjgkaa
