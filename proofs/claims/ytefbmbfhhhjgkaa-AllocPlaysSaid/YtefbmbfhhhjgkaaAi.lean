/- Pools with the transaction hidden; made, known. Printed by genai.py. -/
import Derived.Test.YtefbmbfhhhjgkaaAh
import Derived.Laws.Tables
import Derived.Laws.CopyOwn
namespace Go.Proofs.Ytefbmbfhhhjgkaa
open Go.RowKit
theorem stop_store {P : Program} (t : TypeId) {w : World} {ops : Array Oper} {rest : List Oper} {dst : Option Tmp} {ty : TypeId} {pos : String} {after : Array Edge} {g : Option (Nat × Bool)} {a : Act} {Q : Exit → Act → World → Prop} {x y : Operand}
    (h : Stop (wpList P ops Q (⟨dst, .store t x y, ty, pos, after, g⟩ :: rest) a w)) : wpList P ops Q (⟨dst, .store t x y, ty, pos, after, g⟩ :: rest) a w := h
theorem wpList_load_cells_g {P : Program} {ops : Array Oper} {rest : List Oper} {op : Oper} {a : Act} {w : World} {Q : Exit → Act → World → Prop} (hgd : Region.wanted op (yielded ops a.tmps) = true) {ty : TypeId} {x : Operand} (ho : op.op = .load ty x)
    {ad : Addr} (hx : a.eval x = .pointer (some ad)) {v : Value} (hl : (Instr.loadAt ty (.pointer (some ad))).run P w = .ok v w)
    (h : wpList P ops Q rest (a.put op.dst v) w) : wpList P ops Q (op :: rest) a w :=
  wpList_step fun K hK => by
    simp only [hgd, if_true]
    unfold Oper.wp execOp
    simp only [ho, hx, Sem.run_bind, hl, Result.andThen_ok, Sem.run_pure]
    exact hK _ _ h
def flipT (T : Nat → Bool) (i : Nat) : Nat → Bool := fun j => if j = i then !T i else T j
/-- A pool, another pool, and a transaction that has written no more than these blocks. -/
structure P2 (W0 w : World) (gl g gt N : Nat) (x : Lk) (V : Nat → List UInt8) (bl : List Nat) (m n : Nat) (T : Nat → Bool) (m' n' : Nat) (T' : Nat → Bool) (X : Nat → Prop) : Prop where
  ex : ∃ t, LT W0 w gl g gt N x V t X ∧ t.ov = false ∧ TSub bl t ∧ PB (tvw x V t) m n T ∧ PB (tvw x V t) m' n' T'
/-- How a pool's map lies. -/
structure MapIn (N m n : Nat) (f : Int) (bl : List Nat) : Prop where
  hN : 65 < N ∧ N ≤ 16000
  hp : PoolOk (N - 65) m f n
  hl : bl.length ≤ 63
  hm : ∀ k, k < (n - 1) / 4096 + 1 → m + k ∈ bl
def Apt (m n m' n' : Nat) : Prop := ∀ k, k < (n - 1) / 4096 + 1 → ∀ j, j < n' → m' + j / 4096 ≠ m + k
theorem Apt.zero (m n m' : Nat) : Apt m n m' 0 := fun _ _ j hj => absurd hj (Nat.not_lt_zero j)
section
variable {W0 w w' : World} {gl g gt N : Nat} {x : Lk} {V : Nat → List UInt8} {bl : List Nat} {m n m' n' : Nat} {T T' : Nat → Bool} {X : Nat → Prop} {f : Int}
theorem P2.below (h : P2 W0 w gl g gt N x V bl m n T m' n' T' X) (hb : Below w.heap.size w w') : P2 W0 w' gl g gt N x V bl m n T m' n' T' X := by
  obtain ⟨t, h1, h2⟩ := h.ex
  exact ⟨t, h1.below hb, h2⟩
theorem P2.more (h : P2 W0 w gl g gt N x V bl m n T m' n' T' X) (hb : Below w.heap.size w w') {Y : Nat → Prop} (hY : ∀ k, Y k → X k ∨ (w.heap.size ≤ k ∧ k < w'.heap.size)) : P2 W0 w' gl g gt N x V bl m n T m' n' T' Y := by
  obtain ⟨t, h1, h2⟩ := h.ex
  exact ⟨t, h1.more hb hY, h2⟩
theorem P2.own (h : P2 W0 w gl g gt N x V bl m n T m' n' T' X) {Z : Nat → Prop} (hc : Chg Z w w') (hZ : ∀ k, Z k → X k ∧ W0.heap.size ≤ k) (h8 : ∀ k cs, Blk w k 5 cs → ¬ Z k) (hi : ∀ k cs, Blk w k 3 cs → ¬ Z k) : P2 W0 w' gl g gt N x V bl m n T m' n' T' X := by
  obtain ⟨t, h1, h2⟩ := h.ex
  exact ⟨t, h1.own hc hZ h8 hi, h2⟩
theorem P2.swap (h : P2 W0 w gl g gt N x V bl m n T m' n' T' X) : P2 W0 w gl g gt N x V bl m' n' T' m n T X := by
  obtain ⟨t, h1, h2, h3, h4, h5⟩ := h.ex
  exact ⟨t, h1, h2, h3, h5, h4⟩
theorem P2.bel (h : P2 W0 w gl g gt N x V bl m n T m' n' T' X) : Below W0.heap.size W0 w := by
  obtain ⟨t, h1, _⟩ := h.ex
  exact h1.bel
theorem P2.congr (h : P2 W0 w gl g gt N x V bl m n T m' n' T' X) {S : Nat → Bool} (hS : ∀ i, i < n → T i = S i) : P2 W0 w gl g gt N x V bl m n S m' n' T' X := by
  obtain ⟨t, h1, h2, h3, h4, h5⟩ := h.ex
  exact ⟨t, h1, h2, h3, fun i hi => (h4 i hi).trans (hS i hi), h5⟩
theorem PB.other {bk : Nat → List UInt8} {m n : Nat} {T : Nat → Bool} (h : PB bk m n T) {c : Nat} {b : List UInt8} (hc : ∀ j, j < n → m + j / 4096 ≠ c) : PB (fun k => if k = c then b else bk k) m n T := fun j hj => by
  show bitAt (if m + j / 4096 = c then b else bk (m + j / 4096)) _ = _
  rw [if_neg (hc j hj)]
  exact h j hj
/-- One number turned. -/
theorem P2.turned (hM : MapIn N m n f bl) {t : Tk} (h1 : LT W0 w gl g gt N x V t X) (hto : t.ov = false) (hts : TSub bl t) (h4 : PB (tvw x V t) m n T) (h5 : PB (tvw x V t) m' n' T') (hd : Apt m n m' n') {i : Nat} (hi : i < n) (h : LT W0 w' gl g gt N x V (tput t (m + i / 4096) (turn (tvw x V t (m + i / 4096)) (i % 4096))) X) :
    P2 W0 w' gl g gt N x V bl m n (flipT T i) m' n' T' X := by
  have hlt : m + i / 4096 < N - 65 := by have := hM.hp.m0; have := hM.hp.n0; omega
  have hl5 := tvw_len h1.la h1.tk hlt
  have hk : i / 4096 < (n - 1) / 4096 + 1 := by omega
  have e : tvw x V (tput t (m + i / 4096) (turn (tvw x V t (m + i / 4096)) (i % 4096))) = fun k => if k = m + i / 4096 then turn (tvw x V t (m + i / 4096)) (i % 4096) else tvw x V t k := funext fun k => tvw_put x V t _ _ k
  refine ⟨_, h, hto, (hts.write (hM.hm _ hk) hM.hl hlt hto (by rw [turn_len]; exact hl5)).2, ?_, ?_⟩
  · rw [e]; exact h4.flip hi hl5
  · rw [e]; exact h5.other (hd _ hk)
theorem P2.take (h : P2 W0 w gl g gt N x V bl m n T m' n' T' X) (hM : MapIn N m n f bl) (hd : Apt m n m' n') :
    Calls Try.prog 10 #[.agg #[.int .i64 (m : Int), .int .i64 f, .int .i64 (n : Int)], .pointer (some ⟨gt, 0, none⟩)] w fun e w' =>
      (leastG T n 0 = none ∧ e = .returned (.tuple #[.int .i64 0, .int .i64 7]) ∧ P2 W0 w' gl g gt N x V bl m n T m' n' T' X ∧ KeepX X w w') ∨
      (∃ i, leastG T n 0 = some i ∧ e = .returned (.tuple #[.int .i64 (f + (i : Int)), .int .i64 0]) ∧ P2 W0 w' gl g gt N x V bl m n (flipT T i) m' n' T' X ∧ KeepX X w w') := by
  obtain ⟨t, h1, h2, h3, h4, h5⟩ := h.ex
  refine (Take_calls h1 hM.hN h2 hM.hp h4 h3 hM.hl hM.hm).mono ?_
  intro e w' ho
  unfold TakeTo at ho
  cases hl : leastG T n 0 with
  | none =>
    rw [hl] at ho
    exact .inl ⟨rfl, ho.1, ⟨t, ho.2.1, h2, h3, h4, h5⟩, ho.2.2⟩
  | some i =>
    rw [hl] at ho
    obtain ⟨_, s2, _⟩ := leastG_some hl
    exact .inr ⟨i, rfl, ho.1, P2.turned hM h1 h2 h3 h4 h5 hd (by omega) ho.2.1, ho.2.2⟩
theorem P2.give (h : P2 W0 w gl g gt N x V bl m n T m' n' T' X) (hM : MapIn N m n f bl) (hd : Apt m n m' n') {j : Nat} (hj : j < n) :
    Calls Try.prog 11 #[.agg #[.int .i64 (m : Int), .int .i64 f, .int .i64 (n : Int)], .pointer (some ⟨gt, 0, none⟩), .int .i64 (f + (j : Int))] w fun e w' =>
      (T j = true ∧ e = .returned (.int .i64 0) ∧ P2 W0 w' gl g gt N x V bl m n (flipT T j) m' n' T' X ∧ KeepX X w w') ∨
      (T j = false ∧ e = .returned (.int .i64 1) ∧ P2 W0 w' gl g gt N x V bl m n T m' n' T' X ∧ KeepX X w w') := by
  obtain ⟨t, h1, h2, h3, h4, h5⟩ := h.ex
  refine (Give_calls h1 hM.hN h2 hM.hp h4 h3 hM.hl hM.hm hj).mono ?_
  rintro e w' (⟨a, b, c, d⟩ | ⟨a, b, c, d⟩)
  · exact .inl ⟨a, b, P2.turned hM h1 h2 h3 h4 h5 hd hj c, d⟩
  · exact .inr ⟨a, b, ⟨t, c, h2, h3, h4, h5⟩, d⟩
theorem P2.free (h : P2 W0 w gl g gt N x V bl m n T m' n' T' X) (hM : MapIn N m n f bl) :
    Calls Try.prog 12 #[.agg #[.int .i64 (m : Int), .int .i64 f, .int .i64 (n : Int)], .pointer (some ⟨gt, 0, none⟩)] w (FreeTo w ((n : Int) - (cntT T n : Int))) := by
  obtain ⟨t, h1, h2, h3, h4, h5⟩ := h.ex
  exact Free_calls h1 hM.hN h2 hM.hp h4
theorem P2.has (h : P2 W0 w gl g gt N x V bl m n T m' n' T' X) (hM : MapIn N m n f bl) {j : Nat} (hj : j < n) :
    Calls Try.prog 18 #[.agg #[.int .i64 (m : Int), .int .i64 f, .int .i64 (n : Int)], .pointer (some ⟨gt, 0, none⟩), .int .i64 (f + (j : Int))] w fun e w' => e = .returned (.tuple #[.bool (T j), .int .i64 0]) ∧ Below w.heap.size w w' := by
  obtain ⟨t, h1, h2, h3, h4, h5⟩ := h.ex
  exact Has_calls h1 hM.hN h2 hM.hp h4 hj
theorem P2.clear (h : P2 W0 w gl g gt N x V bl m n T m' n' T' X) (hM : MapIn N m n f bl) (hd : Apt m n m' n') :
    Calls Try.prog 9 #[.agg #[.int .i64 (m : Int), .int .i64 f, .int .i64 (n : Int)], .pointer (some ⟨gt, 0, none⟩)] w fun e w' =>
      e = .returned (.int .i64 0) ∧ P2 W0 w' gl g gt N x V bl m n (fun _ => false) m' n' T' X ∧ KeepX X w w' := by
  obtain ⟨t, h1, h2, h3, h4, h5⟩ := h.ex
  refine (Clear_calls h1 hM.hN h2 hM.hp h3 hM.hl hM.hm).mono ?_
  rintro e w' ⟨a, b, c⟩
  refine ⟨a, ⟨_, b, h2, clrT_sub h3 hM.hm, PB.clear x V t m n hM.hp.n0.1, fun j hj => ?_⟩, c⟩
  rw [tvw_clr, if_neg (fun ⟨e1, e2⟩ => hd (m' + j / 4096 - m) (by omega) j hj (by omega))]
  exact h5 j hj
end
theorem TSub.none (bl : List Nat) : TSub bl ⟨fun _ => Option.none, false⟩ := fun j hj => Bool.noConfusion (show false = true from hj)
/-- Any pool, in a transaction that has written nothing. -/
theorem LT.fresh2 {W0 w : World} {gl g gt N : Nat} {x : Lk} {V : Nat → List UInt8} {X : Nat → Prop} (h : LT W0 w gl g gt N x V ⟨fun _ => none, false⟩ X) (bl : List Nat) (m n m' n' : Nat) : P2 W0 w gl g gt N x V bl m n (fun i => bitAt (datP x V (m + i / 4096)) (i % 4096)) m' n' (fun i => bitAt (datP x V (m' + i / 4096)) (i % 4096)) X :=
  ⟨_, h, rfl, TSub.none bl, fun _ _ => rfl, fun _ _ => rfl⟩
/-- Any pool, in a transaction that has written nothing: the one pool alone. -/
theorem LT.fresh1 {W0 w : World} {gl g gt N : Nat} {x : Lk} {V : Nat → List UInt8} {X : Nat → Prop} (h : LT W0 w gl g gt N x V ⟨fun _ => none, false⟩ X) (bl : List Nat) (m n : Nat) : P2 W0 w gl g gt N x V bl m n (fun i => bitAt (datP x V (m + i / 4096)) (i % 4096)) 0 0 (fun _ => false) X :=
  ⟨_, h, rfl, TSub.none bl, fun _ _ => rfl, fun _ hi => absurd hi (Nat.not_lt_zero _)⟩
def begK (d : Dk) : Lk := ⟨d, fun _ => none, 0, true⟩
def MadeOut (w : World) (N : Nat) (e : Ending) (w' : World) : Prop := ∃ gl g gt d, e = .returned (.tuple #[.pointer (some ⟨gl, 0, none⟩), .pointer (some ⟨gt, 0, none⟩)]) ∧ LT w w' gl g gt N (begK d) fmtV ⟨fun _ => none, false⟩ fun _ => False
set_option maxRecDepth 10000 in
set_option maxHeartbeats 4000000 in
theorem made_calls (w : World) (N : Nat) (hN : 65 < N ∧ N ≤ 16000) : Calls Try.prog 8 #[.int .i64 (N : Int)] w (MadeOut w N) := by
  have hNh := Lib.hid hN
  have hW := Lib.hid (cNew w N (by omega) (by omega))
  clear hN
  go_enter Try.func8, Try.ntmps8
  go_wp2_with fail
  refine hW.out.mono ?_
  rintro e w1 ⟨g, rfl, hd⟩
  have hF := Lib.hid (cFormat hd hNh.out)
  clear hd hW
  go_wp2_with fail
  refine hF.out.mono ?_
  rintro e w2 ⟨d, gl, rfl, hl, _⟩
  have hB := Lib.hid (cBegin hl rfl)
  clear hF hl
  go_wp2_with fail
  refine hB.out.mono ?_
  rintro e w3 ⟨gt, rfl, ht, _⟩
  have ht := Lib.hid ht
  clear hB
  go_wp2
  go_ret2
  exact ⟨gl, g, gt, d, rfl, ht.out⟩
theorem blk_below {w w' : World} {k t : Nat} {cs : Array Value} (h : Blk w k t cs) (hb : Below w.heap.size w w') : Blk w' k t cs := (hb.block k h.lt).trans h
/-- A pool laid into a local. -/
theorem pool_row (w : World) (m f n : Int) : Blk (w.alloc (.cells #[.int .i64 0, .int .i64 0, .int .i64 0] 29)) w.heap.size 29 #[.int .i64 0, .int .i64 0, .int .i64 0] ∧
    Blk (World.setRow (w.alloc (.cells #[.int .i64 0, .int .i64 0, .int .i64 0] 29)) w.heap.size #[.int .i64 m, .int .i64 f, .int .i64 n]) w.heap.size 29 #[.int .i64 m, .int .i64 f, .int .i64 n] ∧
    Below w.heap.size w (World.setRow (w.alloc (.cells #[.int .i64 0, .int .i64 0, .int .i64 0] 29)) w.heap.size #[.int .i64 m, .int .i64 f, .int .i64 n]) :=
  ⟨Blk.new _ _ _, setRow_heap _ _ _ _ _ _ (Blk.new _ _ _), below_setRow ((Below.refl _ _).alloc (Nat.le_refl _) _) (Nat.le_refl _) _⟩
set_option maxRecDepth 100000 in
set_option maxHeartbeats 16000000 in
theorem known_calls (w : World) : Calls Try.prog 7 #[] w fun e w' => e = .returned (.bool true) ∧ Below w.heap.size w w' := by
  have hMk := Lib.hid (made_calls w 80 (by omega))
  have hM : Hid (MapIn 80 2 9 5 [2]) := Lib.hid ⟨by omega, ⟨by omega, by omega, by omega⟩, by decide, fun k hk => by
    have : k = 0 := by omega
    subst this
    exact List.mem_cons_self⟩
  have hMp := fun w => Lib.hid (Maps_calls w 2 5 9 (by unfold I64; omega))
  go_enter Try.func7, Try.ntmps7
  go_wp2_with fail
  refine hMk.out.mono ?_
  rintro e w1 ⟨gl, g, gt, d, rfl, hL⟩
  have hL := Lib.hid (hL.fresh1 [2] 2 9)
  obtain ⟨T0, hT0⟩ : ∃ T0 : Nat → Bool, (fun i => bitAt (datP (begK d) fmtV (2 + i / 4096)) (i % 4096)) = T0 := ⟨_, rfl⟩
  rw [hT0] at hL
  clear hMk hT0
  go_wp2_with (with_reducible refine stop_store 29 ?_)
  obtain ⟨hz, hR, hB⟩ := pool_row w1 (2) (5) (9)
  refine Stop.mk (wpList_store_row rfl 29 _ _ rfl w1.heap.size #[.int .i64 (2), .int .i64 (5), .int .i64 (9)] rfl rfl 29 #[.int .i64 0, .int .i64 0, .int .i64 0] hz (by kernel_rfl) rfl (by simp [Value.oneCell']) ?_)
  clear hz
  have hsz : w1.heap.size < (World.setRow (w1.alloc (.cells #[.int .i64 0, .int .i64 0, .int .i64 0] 29)) w1.heap.size #[.int .i64 (2), .int .i64 (5), .int .i64 (9)]).heap.size := hR.lt
  generalize (World.setRow (w1.alloc (.cells #[.int .i64 0, .int .i64 0, .int .i64 0] 29)) w1.heap.size #[.int .i64 (2), .int .i64 (5), .int .i64 (9)]) = w2 at *
  have hL := Lib.hid (hL.out.more hB (Y := fun k => k = w1.heap.size) fun k hk => .inr ⟨Nat.le_of_eq hk.symm, hk ▸ hsz⟩)
  have hR := Lib.hid hR
  clear hB hsz
  go_wp2_with (with_reducible refine stop_load 29 ?_)
  refine Stop.mk (wpList_load_cells rfl rfl rfl (load_pool hR.out) ?_)
  have hC := Lib.hid (hL.out.clear hM.out (Apt.zero _ _ _))
  clear hL
  go_wp2_with fail
  refine hC.out.mono ?_
  rintro e w3 ⟨rfl, hL, hK⟩
  have hR := Lib.hid (hK.blk hR.out rfl)
  have hL := Lib.hid hL
  clear hC hK
  go_wp2_with (with_reducible refine stop_load 29 ?_)
  refine Stop.mk (wpList_load_cells rfl rfl rfl (load_pool hR.out) ?_)
  have hC := Lib.hid (hL.out.take hM.out (Apt.zero _ _ _))
  clear hL
  go_wp2_with fail
  refine hC.out.mono ?_
  intro e w4 ho
  obtain ⟨rfl, hL, hK⟩ : e = .returned (.tuple #[.int .i64 5, .int .i64 0]) ∧ P2 w w4 gl g gt 80 (begK d) fmtV [2] 2 9 (flipT (fun _ => false) 0) 0 0 (fun _ => false) (fun k => k = w1.heap.size) ∧ KeepX (fun k => k = w1.heap.size) w3 w4 := by
    rcases ho with ⟨a, _⟩ | ⟨i, a, b, c, d⟩
    · exact absurd a (by decide)
    · have : i = 0 := by
        have e : leastG (fun _ => false) 9 0 = some 0 := by decide
        rw [e] at a; exact (Option.some.inj a).symm
      subst this
      exact ⟨b, c, d⟩
  have hR := Lib.hid (hK.blk hR.out rfl)
  have hL := Lib.hid hL
  clear hC hK ho
  go_wp2_with (with_reducible refine stop_load 29 ?_)
  refine Stop.mk (wpList_load_cells rfl rfl rfl (load_pool hR.out) ?_)
  have hC := Lib.hid (hL.out.take hM.out (Apt.zero _ _ _))
  clear hL
  go_wp2_with fail
  refine hC.out.mono ?_
  intro e w5 ho
  obtain ⟨rfl, hL, hK⟩ : e = .returned (.tuple #[.int .i64 6, .int .i64 0]) ∧ P2 w w5 gl g gt 80 (begK d) fmtV [2] 2 9 (flipT (flipT (fun _ => false) 0) 1) 0 0 (fun _ => false) (fun k => k = w1.heap.size) ∧ KeepX (fun k => k = w1.heap.size) w4 w5 := by
    rcases ho with ⟨a, _⟩ | ⟨i, a, b, c, d⟩
    · exact absurd a (by decide)
    · have : i = 1 := by
        have e : leastG (flipT (fun _ => false) 0) 9 0 = some 1 := by decide
        rw [e] at a; exact (Option.some.inj a).symm
      subst this
      exact ⟨b, c, d⟩
  have hR := Lib.hid (hK.blk hR.out rfl)
  have hL := Lib.hid hL
  clear hC hK ho
  go_wp2_with (with_reducible refine stop_load 29 ?_)
  refine Stop.mk (wpList_load_cells rfl rfl rfl (load_pool hR.out) ?_)
  have hC := Lib.hid (hL.out.give hM.out (Apt.zero _ _ _) (j := 0) (by omega))
  clear hL
  go_wp2_with fail
  refine hC.out.mono ?_
  intro e w6 ho
  obtain ⟨rfl, hL, hK⟩ : e = .returned (.int .i64 0) ∧ P2 w w6 gl g gt 80 (begK d) fmtV [2] 2 9 (flipT (flipT (flipT (fun _ => false) 0) 1) 0) 0 0 (fun _ => false) (fun k => k = w1.heap.size) ∧ KeepX (fun k => k = w1.heap.size) w5 w6 := by
    rcases ho with ⟨_, b, c, d⟩ | ⟨a, _⟩
    · exact ⟨b, c, d⟩
    · exact absurd a (by decide)
  have hR := Lib.hid (hK.blk hR.out rfl)
  have hL := Lib.hid hL
  clear hC hK ho
  go_wp2_with (with_reducible refine stop_load 29 ?_)
  refine Stop.mk (wpList_load_cells rfl rfl rfl (load_pool hR.out) ?_)
  have hC := hL.out.free hM.out
  rw [show cntT (flipT (flipT (flipT (fun _ => false) 0) 1) 0) 9 = 1 by decide] at hC
  have hC := Lib.hid hC
  go_wp2_with fail
  refine hC.out.mono ?_
  rintro e w7 ⟨rfl, hb⟩
  have hR := Lib.hid (blk_below hR.out hb)
  have hL := Lib.hid (hL.out.below hb)
  clear hC hb
  go_wp2_with (with_reducible refine stop_load 29 ?_)
  refine Stop.mk (wpList_load_cells_g rfl rfl rfl (load_pool hR.out) ?_)
  go_wp2_with fail
  refine (hMp w7).out.mono ?_
  rintro e w8 ⟨rfl, hb⟩
  have hbf := Lib.hid (hL.out.bel.trans (hb.mono hL.out.bel.size))
  have hm1 : mapsP 9 = 1 := by decide
  rw [hm1]
  clear hb hL hR hMp hm1
  go_wp2
  go_ret
  exact ⟨rfl, hbf.out⟩
end Go.Proofs.Ytefbmbfhhhjgkaa
