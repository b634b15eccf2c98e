/- Pools: Blocks, Maps, Right. Printed by genac.py. Pools: each. Printed by genad.py. -/
import Derived.Test.YtefbmbfhhhjgkaaAp
import Derived.Test.YtefbmbfhhhjgkaaStr
namespace Go.Proofs.Ytefbmbfhhhjgkaa
open Go.RowKit
theorem exec_load {P : Program} {o : Oper} {a : Act} {w : World} {ty : TypeId} {x : Operand} {ad : Addr} {v : Value} (ho : o.op = .load ty x) (hx : a.eval x = .pointer (some ad)) (hl : (Instr.loadAt ty (.pointer (some ad))).run P w = .ok v w) :
    (execOp a.eval o).run P w = .ok (.value v) w := by
  unfold execOp
  simp only [ho, hx, Sem.run_bind, hl, Result.andThen_ok, Sem.run_pure]
theorem below_drewN {B : Nat} {a w : World} (h : Below B a w) (n : Nat) : Below B a (w.drewN n) := ⟨h.os, h.tape, h.output, h.size, h.block⟩
theorem wf64K {n : Int} (h : (Lit.int .i64 n).wf = true) : -9223372036854775808 ≤ n ∧ n ≤ 9223372036854775807 := by
  simp [Lit.wf, IntKind.min, IntKind.max, IntKind.signed, IntKind.bits] at h
  omega
/-- How many blocks the map of n numbers has. -/
def mapsP (n : Int) : Int := if n < 1 then 0 else (n - 1) / 4096 + 1
def rightP (m f n b : Int) : Bool := decide (0 ≤ m ∧ 0 ≤ f ∧ f ≤ 1073741824 ∧ 1 ≤ n ∧ n ≤ 16384 ∧ m ≤ b - mapsP n)
def I64 (n : Int) : Prop := -9223372036854775808 ≤ n ∧ n ≤ 9223372036854775807
theorem load_pool {w : World} {q : Nat} {m f n : Int} (h : Blk w q 29 #[.int .i64 m, .int .i64 f, .int .i64 n]) : (Instr.loadAt 29 (.pointer (some ⟨q, 0, none⟩))).run Try.prog w = .ok (.agg #[.int .i64 m, .int .i64 f, .int .i64 n]) w :=
  run_loadAt_cells w ⟨q, 0, none⟩ 29 [.int .i64 m, .int .i64 f, .int .i64 n] _ (fun j u hj => by
    rw [addr_add_at, Nat.zero_add, h.cell]
    simpa using hj) Try.underlying29 rfl (by kernel_rfl)
set_option maxRecDepth 10000 in
theorem TBlocks_calls (w : World) {gl g gt N : Nat} {x : Lk} {t : Tk} {S F ST FT : Nat → Prop} (h : LO w gl g x S F) (ht : TX w gt gl N t ST FT) (hl : x.d.l.length = N + 65) (hN : N ≤ 16000) : Calls Try.prog 68 #[.pointer (some ⟨gt, 0, none⟩)] w (Ans w (.int .i64 (N : Int))) := by
  have hB := LBlocks_calls w h (by omega)
  rw [hl, show ((N + 65 : Nat) : Int) - 65 = N by omega] at hB
  have hB := Lib.hid hB
  have c0 := (txFacts h ht).1
  clear h ht hl
  go_enter Try.func68, Try.ntmps68
  go_wp2_with fail
  refine hB.out.mono ?_
  rintro e w' ⟨rfl, rfl⟩
  go_wp2
  go_ret
  exact ⟨rfl, rfl⟩
set_option maxRecDepth 10000 in
theorem Maps_calls (w : World) (m f n : Int) (hn : I64 n) : Calls Try.prog 16 #[.agg #[.int .i64 m, .int .i64 f, .int .i64 n]] w fun e w' => e = .returned (.int .i64 (mapsP n)) ∧ Below w.heap.size w w' := by
  obtain ⟨n1, n2⟩ := hn
  have hB : Hid (Below w.heap.size w (w.alloc (.cells #[.int .i64 m, .int .i64 f, .int .i64 n] 29))) := Lib.hid ((Below.refl _ _).alloc (Nat.le_refl _) _)
  unfold mapsP
  by_cases h : n < 1
  · rw [if_pos h]
    go_enter Try.func16, Try.ntmps16
    go_wp2
    go_ret
    exact ⟨rfl, hB.out⟩
  · rw [if_neg h]
    go_enter Try.func16, Try.ntmps16
    go_wp2
    go_ret
    exact ⟨rfl, hB.out⟩
def RightTo (w : World) (b : Bool) (e : Ending) (w' : World) : Prop := e = .returned (.bool b) ∧ Below w.heap.size w w'
set_option maxRecDepth 10000 in
set_option maxHeartbeats 4000000 in
theorem Right_no (w : World) (m f n b : Int) (hm : I64 m) (hf : I64 f) (hn : I64 n) (hb : 0 ≤ b ∧ b ≤ 100000) (h : ¬ (0 ≤ m ∧ 0 ≤ f ∧ f ≤ 1073741824 ∧ 1 ≤ n ∧ n ≤ 16384)) : Calls Try.prog 13 #[.agg #[.int .i64 m, .int .i64 f, .int .i64 n], .int .i64 b] w (RightTo w false) := by
  have hB : Hid (∀ k, Below w.heap.size w ((w.alloc (.cells #[.int .i64 m, .int .i64 f, .int .i64 n] 29)).drewN k)) := Lib.hid fun k => below_drewN ((Below.refl _ _).alloc (Nat.le_refl _) _) k
  have e1 : decide (0 ≤ m) = true ∨ decide (0 ≤ m) = false := by by_cases h : 0 ≤ m <;> simp [h]
  have e2 : decide (0 ≤ f) = true ∨ decide (0 ≤ f) = false := by by_cases h : 0 ≤ f <;> simp [h]
  have e3 : decide (f ≤ 1073741824) = true ∨ decide (f ≤ 1073741824) = false := by by_cases h : f ≤ 1073741824 <;> simp [h]
  have e4 : decide (1 ≤ n) = true ∨ decide (1 ≤ n) = false := by by_cases h : 1 ≤ n <;> simp [h]
  have e5 : decide (n ≤ 16384) = true ∨ decide (n ≤ 16384) = false := by by_cases h : n ≤ 16384 <;> simp [h]
  rcases e1 with e1 | e1
  · rcases e2 with e2 | e2
    · rcases e3 with e3 | e3
      · rcases e4 with e4 | e4
        · rcases e5 with e5 | e5
          · exact absurd ⟨of_decide_eq_true e1, of_decide_eq_true e2, of_decide_eq_true e3, of_decide_eq_true e4, of_decide_eq_true e5⟩ h
          · clear h hm hf hn hb
            go_enter Try.func13, Try.ntmps13
            go_wp2_with fail
            go_quiet (fail)
            go_wp2
            go_ret
            exact ⟨rfl, hB.out _⟩
        · clear h hm hf hn hb e5
          go_enter Try.func13, Try.ntmps13
          go_wp2_with fail
          go_quiet (fail)
          go_wp2
          go_ret
          exact ⟨rfl, hB.out _⟩
      · clear h hm hf hn hb e4 e5
        go_enter Try.func13, Try.ntmps13
        go_wp2_with fail
        go_quiet (fail)
        go_wp2
        go_ret
        exact ⟨rfl, hB.out _⟩
    · clear h hm hf hn hb e3 e4 e5
      go_enter Try.func13, Try.ntmps13
      go_wp2_with fail
      go_quiet (fail)
      go_wp2
      go_ret
      exact ⟨rfl, hB.out _⟩
  · clear h hm hf hn hb e2 e3 e4 e5
    go_enter Try.func13, Try.ntmps13
    go_wp2_with fail
    go_quiet (fail)
    go_wp2
    go_ret
    exact ⟨rfl, hB.out _⟩
set_option maxRecDepth 10000 in
set_option maxHeartbeats 4000000 in
theorem Right_in (w : World) (m f n b : Int) (hb : 0 ≤ b ∧ b ≤ 100000) (h : 0 ≤ m ∧ 0 ≤ f ∧ f ≤ 1073741824 ∧ 1 ≤ n ∧ n ≤ 16384) : Calls Try.prog 13 #[.agg #[.int .i64 m, .int .i64 f, .int .i64 n], .int .i64 b] w (RightTo w (decide (m ≤ b - mapsP n))) := by
  obtain ⟨h1, h2, h3, h4, h5⟩ := h
  have hmp : 0 ≤ mapsP n ∧ mapsP n ≤ 4 := by unfold mapsP; rw [if_neg (by omega)]; omega
  have hM := Lib.hid (fun W => Maps_calls W m f n ⟨by omega, by omega⟩)
  obtain ⟨K, hK⟩ : ∃ K, Hid (mapsP n = K) := ⟨_, Lib.hid rfl⟩
  rw [hK.out] at hmp hM ⊢
  obtain ⟨w1, hw1⟩ : ∃ w1, w.alloc (.cells #[.int .i64 m, .int .i64 f, .int .i64 n] 29) = w1 := ⟨_, rfl⟩
  have hB1 : Hid (Below w.heap.size w w1) := by rw [← hw1]; exact Lib.hid ((Below.refl _ _).alloc (Nat.le_refl _) _)
  have hbk : Hid (Blk w1 w.heap.size 29 #[.int .i64 m, .int .i64 f, .int .i64 n]) := by rw [← hw1]; exact Lib.hid (Blk.new _ _ _)
  have hld := Lib.hid (fun (W : World) (h : Blk W w.heap.size 29 #[.int .i64 m, .int .i64 f, .int .i64 n]) => load_pool h)
  have d1 : decide (0 ≤ m) = true := decide_eq_true h1
  have d2 : decide (0 ≤ f) = true := decide_eq_true h2
  have d3 : decide (f ≤ 1073741824) = true := decide_eq_true h3
  have d4 : decide (1 ≤ n) = true := decide_eq_true h4
  have d5 : decide (n ≤ 16384) = true := decide_eq_true h5
  have hwp : IntKind.i64.wrap (b - K) = b - K := by rw [IntKind.wrap_i64]; omega
  clear hK
  go_enter Try.func13, Try.ntmps13
  go_wp2_with fail
  refine wp_mixs (fun W => Blk W w.heap.size 29 #[.int .i64 m, .int .i64 f, .int .i64 n]) [28] (by kernel_rfl) (by kernel_rfl) (by kernel_rfl) (by decide) (show Blk w1.drew _ _ _ from hbk.out) ?_
  iterate 4 ((first | refine mixsq rfl rfl 0 (by decide +kernel) ?_ (fun w' hw' => Or.inl ?_) (fun K hK => ?_) | refine mixsq rfl rfl 1 (by decide +kernel) ?_ (fun w' hw' => Or.inl ?_) (fun K hK => ?_) | refine mixsq rfl rfl 2 (by decide +kernel) ?_ (fun w' hw' => Or.inl ?_) (fun K hK => ?_) | refine mixsq rfl rfl 3 (by decide +kernel) ?_ (fun w' hw' => Or.inl ?_) (fun K hK => ?_) | refine mixsq rfl rfl 4 (by decide +kernel) ?_ (fun w' hw' => Or.inl ?_) (fun K hK => ?_) | refine mixsq rfl rfl 5 (by decide +kernel) ?_ (fun w' hw' => Or.inl ?_) (fun K hK => ?_) | refine mixsq rfl rfl 6 (by decide +kernel) ?_ (fun w' hw' => Or.inl ?_) (fun K hK => ?_) | refine mixsq rfl rfl 7 (by decide +kernel) ?_ (fun w' hw' => Or.inl ?_) (fun K hK => ?_)); rotate_left; (focus (have hc : Blk w' w.heap.size 29 #[.int .i64 m, .int .i64 f, .int .i64 n] := hw'; have c0 := hc.cell 0; have c1 := hc.cell 1; have c2 := hc.cell 2; go_simp; rfl)); go_simp; refine hK _ ?_; clear hK K)
  iterate 3 ((first | refine mixsq_yes rfl (by first | rfl | kernel_rfl) 0 (by decide +kernel) ?_ (fun w' hw' => Or.inl ?_) (fun K hK => ?_) | refine mixsq_yes rfl (by first | rfl | kernel_rfl) 1 (by decide +kernel) ?_ (fun w' hw' => Or.inl ?_) (fun K hK => ?_) | refine mixsq_yes rfl (by first | rfl | kernel_rfl) 2 (by decide +kernel) ?_ (fun w' hw' => Or.inl ?_) (fun K hK => ?_) | refine mixsq_yes rfl (by first | rfl | kernel_rfl) 3 (by decide +kernel) ?_ (fun w' hw' => Or.inl ?_) (fun K hK => ?_) | refine mixsq_yes rfl (by first | rfl | kernel_rfl) 4 (by decide +kernel) ?_ (fun w' hw' => Or.inl ?_) (fun K hK => ?_) | refine mixsq_yes rfl (by first | rfl | kernel_rfl) 5 (by decide +kernel) ?_ (fun w' hw' => Or.inl ?_) (fun K hK => ?_) | refine mixsq_yes rfl (by first | rfl | kernel_rfl) 6 (by decide +kernel) ?_ (fun w' hw' => Or.inl ?_) (fun K hK => ?_) | refine mixsq_yes rfl (by first | rfl | kernel_rfl) 7 (by decide +kernel) ?_ (fun w' hw' => Or.inl ?_) (fun K hK => ?_)); rotate_left; (focus (have hc : Blk w' w.heap.size 29 #[.int .i64 m, .int .i64 f, .int .i64 n] := hw'; have c0 := hc.cell 0; have c1 := hc.cell 1; have c2 := hc.cell 2; go_simp; rfl)); go_simp; refine hK _ ?_; clear hK K)
  iterate 2 ((first | refine mixsq rfl rfl 0 (by decide +kernel) ?_ (fun w' hw' => Or.inl ?_) (fun K hK => ?_) | refine mixsq rfl rfl 1 (by decide +kernel) ?_ (fun w' hw' => Or.inl ?_) (fun K hK => ?_) | refine mixsq rfl rfl 2 (by decide +kernel) ?_ (fun w' hw' => Or.inl ?_) (fun K hK => ?_) | refine mixsq rfl rfl 3 (by decide +kernel) ?_ (fun w' hw' => Or.inl ?_) (fun K hK => ?_) | refine mixsq rfl rfl 4 (by decide +kernel) ?_ (fun w' hw' => Or.inl ?_) (fun K hK => ?_) | refine mixsq rfl rfl 5 (by decide +kernel) ?_ (fun w' hw' => Or.inl ?_) (fun K hK => ?_) | refine mixsq rfl rfl 6 (by decide +kernel) ?_ (fun w' hw' => Or.inl ?_) (fun K hK => ?_) | refine mixsq rfl rfl 7 (by decide +kernel) ?_ (fun w' hw' => Or.inl ?_) (fun K hK => ?_)); rotate_left; (focus (go_simp; rfl)); go_simp; refine hK _ ?_; clear hK K)
  iterate 3 ((first | refine mixsq_yes rfl (by first | rfl | kernel_rfl) 0 (by decide +kernel) ?_ (fun w' hw' => Or.inl ?_) (fun K hK => ?_) | refine mixsq_yes rfl (by first | rfl | kernel_rfl) 1 (by decide +kernel) ?_ (fun w' hw' => Or.inl ?_) (fun K hK => ?_) | refine mixsq_yes rfl (by first | rfl | kernel_rfl) 2 (by decide +kernel) ?_ (fun w' hw' => Or.inl ?_) (fun K hK => ?_) | refine mixsq_yes rfl (by first | rfl | kernel_rfl) 3 (by decide +kernel) ?_ (fun w' hw' => Or.inl ?_) (fun K hK => ?_) | refine mixsq_yes rfl (by first | rfl | kernel_rfl) 4 (by decide +kernel) ?_ (fun w' hw' => Or.inl ?_) (fun K hK => ?_) | refine mixsq_yes rfl (by first | rfl | kernel_rfl) 5 (by decide +kernel) ?_ (fun w' hw' => Or.inl ?_) (fun K hK => ?_) | refine mixsq_yes rfl (by first | rfl | kernel_rfl) 6 (by decide +kernel) ?_ (fun w' hw' => Or.inl ?_) (fun K hK => ?_) | refine mixsq_yes rfl (by first | rfl | kernel_rfl) 7 (by decide +kernel) ?_ (fun w' hw' => Or.inl ?_) (fun K hK => ?_)); rotate_left; (focus (have hc : Blk w' w.heap.size 29 #[.int .i64 m, .int .i64 f, .int .i64 n] := hw'; have c0 := hc.cell 0; have c1 := hc.cell 1; have c2 := hc.cell 2; go_simp; rfl)); go_simp; refine hK _ ?_; clear hK K)
  iterate 2 ((first | refine mixsq rfl rfl 0 (by decide +kernel) ?_ (fun w' hw' => Or.inl ?_) (fun K hK => ?_) | refine mixsq rfl rfl 1 (by decide +kernel) ?_ (fun w' hw' => Or.inl ?_) (fun K hK => ?_) | refine mixsq rfl rfl 2 (by decide +kernel) ?_ (fun w' hw' => Or.inl ?_) (fun K hK => ?_) | refine mixsq rfl rfl 3 (by decide +kernel) ?_ (fun w' hw' => Or.inl ?_) (fun K hK => ?_) | refine mixsq rfl rfl 4 (by decide +kernel) ?_ (fun w' hw' => Or.inl ?_) (fun K hK => ?_) | refine mixsq rfl rfl 5 (by decide +kernel) ?_ (fun w' hw' => Or.inl ?_) (fun K hK => ?_) | refine mixsq rfl rfl 6 (by decide +kernel) ?_ (fun w' hw' => Or.inl ?_) (fun K hK => ?_) | refine mixsq rfl rfl 7 (by decide +kernel) ?_ (fun w' hw' => Or.inl ?_) (fun K hK => ?_)); rotate_left; (focus (go_simp; rfl)); go_simp; refine hK _ ?_; clear hK K)
  iterate 3 ((first | refine mixsq_yes rfl (by first | rfl | kernel_rfl) 0 (by decide +kernel) ?_ (fun w' hw' => Or.inl ?_) (fun K hK => ?_) | refine mixsq_yes rfl (by first | rfl | kernel_rfl) 1 (by decide +kernel) ?_ (fun w' hw' => Or.inl ?_) (fun K hK => ?_) | refine mixsq_yes rfl (by first | rfl | kernel_rfl) 2 (by decide +kernel) ?_ (fun w' hw' => Or.inl ?_) (fun K hK => ?_) | refine mixsq_yes rfl (by first | rfl | kernel_rfl) 3 (by decide +kernel) ?_ (fun w' hw' => Or.inl ?_) (fun K hK => ?_) | refine mixsq_yes rfl (by first | rfl | kernel_rfl) 4 (by decide +kernel) ?_ (fun w' hw' => Or.inl ?_) (fun K hK => ?_) | refine mixsq_yes rfl (by first | rfl | kernel_rfl) 5 (by decide +kernel) ?_ (fun w' hw' => Or.inl ?_) (fun K hK => ?_) | refine mixsq_yes rfl (by first | rfl | kernel_rfl) 6 (by decide +kernel) ?_ (fun w' hw' => Or.inl ?_) (fun K hK => ?_) | refine mixsq_yes rfl (by first | rfl | kernel_rfl) 7 (by decide +kernel) ?_ (fun w' hw' => Or.inl ?_) (fun K hK => ?_)); rotate_left; (focus (have hc : Blk w' w.heap.size 29 #[.int .i64 m, .int .i64 f, .int .i64 n] := hw'; have c0 := hc.cell 0; have c1 := hc.cell 1; have c2 := hc.cell 2; go_simp; rfl)); go_simp; refine hK _ ?_; clear hK K)
  iterate 2 ((first | refine mixsq rfl rfl 0 (by decide +kernel) ?_ (fun w' hw' => Or.inl ?_) (fun K hK => ?_) | refine mixsq rfl rfl 1 (by decide +kernel) ?_ (fun w' hw' => Or.inl ?_) (fun K hK => ?_) | refine mixsq rfl rfl 2 (by decide +kernel) ?_ (fun w' hw' => Or.inl ?_) (fun K hK => ?_) | refine mixsq rfl rfl 3 (by decide +kernel) ?_ (fun w' hw' => Or.inl ?_) (fun K hK => ?_) | refine mixsq rfl rfl 4 (by decide +kernel) ?_ (fun w' hw' => Or.inl ?_) (fun K hK => ?_) | refine mixsq rfl rfl 5 (by decide +kernel) ?_ (fun w' hw' => Or.inl ?_) (fun K hK => ?_) | refine mixsq rfl rfl 6 (by decide +kernel) ?_ (fun w' hw' => Or.inl ?_) (fun K hK => ?_) | refine mixsq rfl rfl 7 (by decide +kernel) ?_ (fun w' hw' => Or.inl ?_) (fun K hK => ?_)); rotate_left; (focus (go_simp; rfl)); go_simp; refine hK _ ?_; clear hK K)
  iterate 3 ((first | refine mixsq_yes rfl (by first | rfl | kernel_rfl) 0 (by decide +kernel) ?_ (fun w' hw' => Or.inl ?_) (fun K hK => ?_) | refine mixsq_yes rfl (by first | rfl | kernel_rfl) 1 (by decide +kernel) ?_ (fun w' hw' => Or.inl ?_) (fun K hK => ?_) | refine mixsq_yes rfl (by first | rfl | kernel_rfl) 2 (by decide +kernel) ?_ (fun w' hw' => Or.inl ?_) (fun K hK => ?_) | refine mixsq_yes rfl (by first | rfl | kernel_rfl) 3 (by decide +kernel) ?_ (fun w' hw' => Or.inl ?_) (fun K hK => ?_) | refine mixsq_yes rfl (by first | rfl | kernel_rfl) 4 (by decide +kernel) ?_ (fun w' hw' => Or.inl ?_) (fun K hK => ?_) | refine mixsq_yes rfl (by first | rfl | kernel_rfl) 5 (by decide +kernel) ?_ (fun w' hw' => Or.inl ?_) (fun K hK => ?_) | refine mixsq_yes rfl (by first | rfl | kernel_rfl) 6 (by decide +kernel) ?_ (fun w' hw' => Or.inl ?_) (fun K hK => ?_) | refine mixsq_yes rfl (by first | rfl | kernel_rfl) 7 (by decide +kernel) ?_ (fun w' hw' => Or.inl ?_) (fun K hK => ?_)); rotate_left; (focus (have hc : Blk w' w.heap.size 29 #[.int .i64 m, .int .i64 f, .int .i64 n] := hw'; have c0 := hc.cell 0; have c1 := hc.cell 1; have c2 := hc.cell 2; go_simp; rfl)); go_simp; refine hK _ ?_; clear hK K)
  iterate 2 ((first | refine mixsq rfl rfl 0 (by decide +kernel) ?_ (fun w' hw' => Or.inl ?_) (fun K hK => ?_) | refine mixsq rfl rfl 1 (by decide +kernel) ?_ (fun w' hw' => Or.inl ?_) (fun K hK => ?_) | refine mixsq rfl rfl 2 (by decide +kernel) ?_ (fun w' hw' => Or.inl ?_) (fun K hK => ?_) | refine mixsq rfl rfl 3 (by decide +kernel) ?_ (fun w' hw' => Or.inl ?_) (fun K hK => ?_) | refine mixsq rfl rfl 4 (by decide +kernel) ?_ (fun w' hw' => Or.inl ?_) (fun K hK => ?_) | refine mixsq rfl rfl 5 (by decide +kernel) ?_ (fun w' hw' => Or.inl ?_) (fun K hK => ?_) | refine mixsq rfl rfl 6 (by decide +kernel) ?_ (fun w' hw' => Or.inl ?_) (fun K hK => ?_) | refine mixsq rfl rfl 7 (by decide +kernel) ?_ (fun w' hw' => Or.inl ?_) (fun K hK => ?_)); rotate_left; (focus (go_simp; rfl)); go_simp; refine hK _ ?_; clear hK K)
  iterate 3 ((first | refine mixsq_yes rfl (by first | rfl | kernel_rfl) 0 (by decide +kernel) ?_ (fun w' hw' => Or.inl ?_) (fun K hK => ?_) | refine mixsq_yes rfl (by first | rfl | kernel_rfl) 1 (by decide +kernel) ?_ (fun w' hw' => Or.inl ?_) (fun K hK => ?_) | refine mixsq_yes rfl (by first | rfl | kernel_rfl) 2 (by decide +kernel) ?_ (fun w' hw' => Or.inl ?_) (fun K hK => ?_) | refine mixsq_yes rfl (by first | rfl | kernel_rfl) 3 (by decide +kernel) ?_ (fun w' hw' => Or.inl ?_) (fun K hK => ?_) | refine mixsq_yes rfl (by first | rfl | kernel_rfl) 4 (by decide +kernel) ?_ (fun w' hw' => Or.inl ?_) (fun K hK => ?_) | refine mixsq_yes rfl (by first | rfl | kernel_rfl) 5 (by decide +kernel) ?_ (fun w' hw' => Or.inl ?_) (fun K hK => ?_) | refine mixsq_yes rfl (by first | rfl | kernel_rfl) 6 (by decide +kernel) ?_ (fun w' hw' => Or.inl ?_) (fun K hK => ?_) | refine mixsq_yes rfl (by first | rfl | kernel_rfl) 7 (by decide +kernel) ?_ (fun w' hw' => Or.inl ?_) (fun K hK => ?_)); rotate_left; (focus (have hc : Blk w' w.heap.size 29 #[.int .i64 m, .int .i64 f, .int .i64 n] := hw'; have c0 := hc.cell 0; have c1 := hc.cell 1; have c2 := hc.cell 2; go_simp; rfl)); go_simp; refine hK _ ?_; clear hK K)
  (refine mixsq_yes rfl (by first | rfl | kernel_rfl) 0 (by decide +kernel) (.agg #[.int .i64 m, .int .i64 f, .int .i64 n]) (fun w' hw' => Or.inl (exec_load rfl rfl (hld.out w' hw'))) (fun K hK => ?_)); go_simp; refine hK _ ?_; clear hK K
  refine mixsl_yes rfl (by first | rfl | kernel_rfl) (fun K hK => ?_)
  go_simp
  refine (hM.out w1.drew).mono ?_
  rintro e w2 ⟨rfl, hb2⟩
  have hbk2 : Blk w2 w.heap.size 29 #[.int .i64 m, .int .i64 f, .int .i64 n] := (hb2.block _ hbk.out.lt).trans hbk.out
  have hb12 : Below w1.heap.size w1 w2 := ⟨hb2.os, hb2.tape, hb2.output, hb2.size, hb2.block⟩
  have hB2 := Lib.hid (hB1.out.trans (hb12.mono hB1.out.size))
  refine hK (fun W => True) _ _ (fun _ => ⟨trivial, fun _ => hbk2⟩) ?_
  clear hK K
  iterate 2 ((first | refine mixsq_yes rfl (by first | rfl | kernel_rfl) 0 (by decide +kernel) ?_ (fun w' hw' => Or.inl ?_) (fun K hK => ?_) | refine mixsq_yes rfl (by first | rfl | kernel_rfl) 1 (by decide +kernel) ?_ (fun w' hw' => Or.inl ?_) (fun K hK => ?_) | refine mixsq_yes rfl (by first | rfl | kernel_rfl) 2 (by decide +kernel) ?_ (fun w' hw' => Or.inl ?_) (fun K hK => ?_) | refine mixsq_yes rfl (by first | rfl | kernel_rfl) 3 (by decide +kernel) ?_ (fun w' hw' => Or.inl ?_) (fun K hK => ?_) | refine mixsq_yes rfl (by first | rfl | kernel_rfl) 4 (by decide +kernel) ?_ (fun w' hw' => Or.inl ?_) (fun K hK => ?_) | refine mixsq_yes rfl (by first | rfl | kernel_rfl) 5 (by decide +kernel) ?_ (fun w' hw' => Or.inl ?_) (fun K hK => ?_) | refine mixsq_yes rfl (by first | rfl | kernel_rfl) 6 (by decide +kernel) ?_ (fun w' hw' => Or.inl ?_) (fun K hK => ?_) | refine mixsq_yes rfl (by first | rfl | kernel_rfl) 7 (by decide +kernel) ?_ (fun w' hw' => Or.inl ?_) (fun K hK => ?_)); rotate_left; (focus (go_simp; rfl)); go_simp; refine hK _ ?_; clear hK K)
  iterate 2 ((first | refine mixsq rfl rfl 0 (by decide +kernel) ?_ (fun w' hw' => Or.inl ?_) (fun K hK => ?_) | refine mixsq rfl rfl 1 (by decide +kernel) ?_ (fun w' hw' => Or.inl ?_) (fun K hK => ?_) | refine mixsq rfl rfl 2 (by decide +kernel) ?_ (fun w' hw' => Or.inl ?_) (fun K hK => ?_) | refine mixsq rfl rfl 3 (by decide +kernel) ?_ (fun w' hw' => Or.inl ?_) (fun K hK => ?_) | refine mixsq rfl rfl 4 (by decide +kernel) ?_ (fun w' hw' => Or.inl ?_) (fun K hK => ?_) | refine mixsq rfl rfl 5 (by decide +kernel) ?_ (fun w' hw' => Or.inl ?_) (fun K hK => ?_) | refine mixsq rfl rfl 6 (by decide +kernel) ?_ (fun w' hw' => Or.inl ?_) (fun K hK => ?_) | refine mixsq rfl rfl 7 (by decide +kernel) ?_ (fun w' hw' => Or.inl ?_) (fun K hK => ?_)); rotate_left; (focus (go_simp; rfl)); go_simp; refine hK _ ?_; clear hK K)
  refine mixs_nil ?_
  clear hb2 hbk2 hb12
  go_wp2
  go_ret
  exact ⟨rfl, hB2.out⟩
end Go.Proofs.Ytefbmbfhhhjgkaa
namespace Go.Proofs.Ytefbmbfhhhjgkaa
open Go.RowKit
/-- What a function that each calls leaves: it goes on, or it ends. -/
def EachTo (I : Nat → World → Prop) (J : Int → World → Prop) (w0 W1 W : World) (k : Nat) (e : Ending) (w' : World) : Prop :=
  (∀ q, q = w0.heap.size → q < W1.heap.size → w'.heap[q]? = W.heap[q]?) ∧ W.heap.size ≤ w'.heap.size ∧
  ((e = .returned (.tuple #[.bool true, .int .i64 0]) ∧ I (k + 1) w') ∨ ∃ b er, e = .returned (.tuple #[.bool b, .int .i64 er]) ∧ (er = 0 → b = false) ∧ J er w')
/-- What each leaves. -/
def EachOut (I : Nat → World → Prop) (J : Int → World → Prop) (K : Nat) (e : Ending) (w' : World) : Prop := (e = .returned (.int .i64 0) ∧ I K w') ∨ ∃ er, e = .returned (.int .i64 er) ∧ J er w'
set_option maxRecDepth 100000 in
set_option maxHeartbeats 8000000 in
theorem each_calls (w : World) {gt : Nat} {m f n b : Int} (hb : 0 ≤ b ∧ b ≤ 100000) (hr : rightP m f n b = true) {kf : Nat} {cap : Array Value} {I : Nat → World → Prop} {J : Int → World → Prop}
    (hbel : ∀ k W W', I k W → Below W.heap.size W W' → I k W') (hI : I 0 w)
    (hblk : ∀ W, Below w.heap.size w W → Calls Try.prog 68 #[.pointer (some ⟨gt, 0, none⟩)] W (Ans W (.int .i64 b)))
    (hen : ∀ W x y z, (callFunc kf (#[x, y, z] ++ cap)).run Try.prog W = .ok (.enter kf (#[x, y, z] ++ cap)) W)
    (hround : ∀ (k : Nat) W, (k : Int) < mapsP n → I k W → ∃ bk : List UInt8, bk.length = 512 ∧ Calls Try.prog 69 #[.pointer (some ⟨gt, 0, none⟩), .int .i64 (m + k)] W (RdOut W 0 bk) ∧
      ∀ W' bx cx, Below W.heap.size W W' → I k W' → Own8 W' (.slice (some ⟨bx, 0, none⟩) 512 cx) bk → W.heap.size ≤ bx → Calls Try.prog kf (#[.int .i64 (k : Int), .slice (some ⟨bx, 0, none⟩) 512 cx, .int .i64 (imin 4096 (n - (k : Int) * 4096))] ++ cap) W' (EachTo I J w W W' k)) :
    Calls Try.prog 33 #[.agg #[.int .i64 m, .int .i64 f, .int .i64 n], .pointer (some ⟨gt, 0, none⟩), .func (.func kf) #[] cap] w (EachOut I J (mapsP n).toNat) := by
  unfold rightP at hr
  have hr := of_decide_eq_true hr
  obtain ⟨h1, h2, h3, h4, h5, h6⟩ := hr
  have hmp : 1 ≤ mapsP n ∧ mapsP n ≤ 4 ∧ (mapsP n - 1) * 4096 < n := by unfold mapsP; rw [if_neg (by omega)]; omega
  have hR := Lib.hid (fun W => Right_in W m f n b hb ⟨h1, h2, h3, h4, h5⟩)
  rw [decide_eq_true h6] at hR
  have hM := Lib.hid (fun W => Maps_calls W m f n ⟨by omega, by omega⟩)
  obtain ⟨K, hK⟩ : ∃ K : Nat, Hid (mapsP n = (K : Int)) := ⟨(mapsP n).toNat, Lib.hid (by omega)⟩
  rw [hK.out] at hmp hM h6 ⊢
  rw [Int.toNat_natCast]
  have hround := Lib.hid hround
  have hbelh := Lib.hid hbel
  have hblkh := Lib.hid hblk
  have hIh := Lib.hid hI
  have hmin := @run_imin Try.prog
  have hld := Lib.hid (fun (W : World) (h : Blk W w.heap.size 29 #[.int .i64 m, .int .i64 f, .int .i64 n]) => load_pool h)
  obtain ⟨w1, hw1⟩ : ∃ w1, w.alloc (.cells #[.int .i64 m, .int .i64 f, .int .i64 n] 29) = w1 := ⟨_, rfl⟩
  have hB1 : Hid (Below w.heap.size w w1) := by rw [← hw1]; exact Lib.hid ((Below.refl _ _).alloc (Nat.le_refl _) _)
  have hbk : Hid (Blk w1 w.heap.size 29 #[.int .i64 m, .int .i64 f, .int .i64 n]) := by rw [← hw1]; exact Lib.hid (Blk.new _ _ _)
  clear hbel hblk hI
  go_enter Try.func33, Try.ntmps33
  go_wp2_with fail
  refine wp_mixs (fun W => Blk W w.heap.size 29 #[.int .i64 m, .int .i64 f, .int .i64 n]) [2, 3] (by kernel_rfl) (by kernel_rfl) (by kernel_rfl) (by decide) (show Blk w1.drew _ _ _ from hbk.out) ?_
  (refine mixsq rfl rfl 0 (by decide +kernel) (.agg #[.int .i64 m, .int .i64 f, .int .i64 n]) (fun w' hw' => Or.inl (exec_load rfl rfl (hld.out w' hw'))) (fun K hK => ?_)); go_simp; refine hK _ ?_; clear hK K
  (first | refine mixsq rfl rfl 0 (by decide +kernel) ?_ (fun w' hw' => Or.inl ?_) (fun K hK => ?_) | refine mixsq rfl rfl 1 (by decide +kernel) ?_ (fun w' hw' => Or.inl ?_) (fun K hK => ?_) | refine mixsq rfl rfl 2 (by decide +kernel) ?_ (fun w' hw' => Or.inl ?_) (fun K hK => ?_) | refine mixsq rfl rfl 3 (by decide +kernel) ?_ (fun w' hw' => Or.inl ?_) (fun K hK => ?_) | refine mixsq rfl rfl 4 (by decide +kernel) ?_ (fun w' hw' => Or.inl ?_) (fun K hK => ?_) | refine mixsq rfl rfl 5 (by decide +kernel) ?_ (fun w' hw' => Or.inl ?_) (fun K hK => ?_) | refine mixsq rfl rfl 6 (by decide +kernel) ?_ (fun w' hw' => Or.inl ?_) (fun K hK => ?_) | refine mixsq rfl rfl 7 (by decide +kernel) ?_ (fun w' hw' => Or.inl ?_) (fun K hK => ?_)); rotate_left; (focus (go_simp; rfl)); go_simp; refine hK _ ?_; clear hK K
  refine mixsl rfl rfl (fun K hK => ?_)
  go_simp
  refine (hblkh.out w1.drew hB1.out.drew).mono ?_
  rintro e w2 ⟨rfl, rfl⟩
  have hbk2 : Blk w1.drew w.heap.size 29 #[.int .i64 m, .int .i64 f, .int .i64 n] := hbk.out
  refine hK (fun W => Blk W w.heap.size 29 #[.int .i64 m, .int .i64 f, .int .i64 n]) _ _ (fun _ => ⟨hbk2, fun _ => hbk2⟩) ?_
  clear hK K
  refine mixsl rfl rfl (fun K hK => ?_)
  go_simp
  refine (hR.out w1.drew).mono ?_
  rintro e w2 ⟨rfl, hb2⟩
  have hbk3 : Blk w2 w.heap.size 29 #[.int .i64 m, .int .i64 f, .int .i64 n] := (hb2.block _ hbk.out.lt).trans hbk.out
  have hB2 : Hid (Below w.heap.size w w2) := Lib.hid (hB1.out.drew.trans (hb2.mono hB1.out.size))
  refine hK (fun W => True) _ _ (fun _ => ⟨trivial, ext_all (fun _ => hbk3) hbk3⟩) ?_
  clear hK K hbk2
  (first | refine mixsq rfl rfl 0 (by decide +kernel) ?_ (fun w' hw' => Or.inl ?_) (fun K hK => ?_) | refine mixsq rfl rfl 1 (by decide +kernel) ?_ (fun w' hw' => Or.inl ?_) (fun K hK => ?_) | refine mixsq rfl rfl 2 (by decide +kernel) ?_ (fun w' hw' => Or.inl ?_) (fun K hK => ?_) | refine mixsq rfl rfl 3 (by decide +kernel) ?_ (fun w' hw' => Or.inl ?_) (fun K hK => ?_) | refine mixsq rfl rfl 4 (by decide +kernel) ?_ (fun w' hw' => Or.inl ?_) (fun K hK => ?_) | refine mixsq rfl rfl 5 (by decide +kernel) ?_ (fun w' hw' => Or.inl ?_) (fun K hK => ?_) | refine mixsq rfl rfl 6 (by decide +kernel) ?_ (fun w' hw' => Or.inl ?_) (fun K hK => ?_) | refine mixsq rfl rfl 7 (by decide +kernel) ?_ (fun w' hw' => Or.inl ?_) (fun K hK => ?_)); rotate_left; (focus (go_simp; rfl)); go_simp; refine hK _ ?_; clear hK K
  refine mixs_nil ?_
  have hldw := hld.out w2 hbk3
  have hbk3 := Lib.hid hbk3
  clear hb2 hbk hw1
  go_wp2_with (with_reducible refine stop_load 29 ?_)
  refine Stop.mk (wpList_load_cells rfl rfl rfl hldw ?_)
  clear hldw
  go_wp2_with fail
  refine (hM.out w2).mono ?_
  rintro e w3 ⟨rfl, hb3⟩
  have hB3 := Lib.hid (hB2.out.trans (hb3.mono hB2.out.size))
  have hbk4 : Hid (Blk w3 w.heap.size 29 #[.int .i64 m, .int .i64 f, .int .i64 n]) := Lib.hid ((hb3.block _ hbk3.out.lt).trans hbk3.out)
  have hI3 := Lib.hid (hbelh.out 0 w w3 hIh.out hB3.out)
  clear hb3 hbk3 hB1 hB2 hIh hR hM
  go_wp2
  go_loopw [18] (fun iv wr => ∃ k : Nat, k ≤ K ∧ iv = .int .i64 (k : Int) ∧ Hid (I k wr) ∧ Hid (Blk wr w.heap.size 29 #[.int .i64 m, .int .i64 f, .int .i64 n]) ∧ Hid (w.heap.size ≤ wr.heap.size)) (fun iv _ => K - (RowKit.intOf iv).toNat)
  case atStart => exact ⟨0, Nat.zero_le _, rfl, hI3, hbk4, Lib.hid hB3.out.size⟩
  case round =>
    obtain ⟨k, hk, rfl, hIk, hbkk, hsz⟩ := hrel
    clear hI3 hbk4 hB3
    by_cases hkK : k < K
    · have hkK' : (k : Int) < (K : Int) := by omega
      have hk4 : k ≤ 3 := by omega
      obtain ⟨bk, hbl, hRd, hcl⟩ := hround.out k wr (by rw [hK.out]; exact hkK') hIk.out
      have c0 : wr.cell? ⟨w.heap.size, 0, none⟩ = some (.int .i64 m) := hbkk.out.cell 0
      have hRd := Lib.hid hRd
      have hcl := Lib.hid hcl
      have hbl := Lib.hid hbl
      go_wp2_with fail
      refine hRd.out.mono ?_
      intro e w4 hr
      obtain ⟨bx, cx, rfl, hx, hxb, hx1, hx2⟩ := hr.ok rfl hbl.out
      have hI4 := hbelh.out k wr w4 hIk.out hxb
      have hbk4 : Blk w4 w.heap.size 29 #[.int .i64 m, .int .i64 f, .int .i64 n] := (hxb.block _ hbkk.out.lt).trans hbkk.out
      have c2 : w4.cell? ⟨w.heap.size, 2, none⟩ = some (.int .i64 n) := hbk4.cell 2
      have hC := Lib.hid (hcl.out w4 bx cx hxb hI4 hx hx1)
      have hbk4 := Lib.hid hbk4
      have hql : Hid (w.heap.size < wr.heap.size) := Lib.hid hbkk.out.lt
      clear hr hx hxb hx1 hx2 hI4 hRd hcl hIk c0
      have hrun := hen w4
      go_wp2_with fail
      refine hC.out.mono ?_
      rintro e w5 ⟨hq, hsz5, (⟨rfl, hI5⟩ | ⟨bo, er, rfl, hz, hJ⟩)⟩
      · have hbk5 : Hid (Blk w5 w.heap.size 29 #[.int .i64 m, .int .i64 f, .int .i64 n]) := Lib.hid ((hq _ rfl hql.out).trans hbk4.out)
        have hI5 := Lib.hid hI5
        have hsz6 : Hid (w.heap.size ≤ w5.heap.size) := Lib.hid (Nat.le_of_lt hbk5.out.lt)
        clear hq hsz5 hC hbk4 hql hrun c2
        go_wp2
        go_roundw
        case rel => exact ⟨k + 1, by omega, by go_num, hI5, hbk5, hsz6⟩
        case measure => simp [RowKit.intOf]; omega
      · have hfin : Hid (EachOut I J K (.returned (.int .i64 er)) w5) := Lib.hid (.inr ⟨er, rfl, hJ⟩)
        have hz := Lib.hid hz
        clear hq hsz5 hC hbk4 hql hrun c2 hJ
        by_cases e0 : er = 0
        · obtain rfl := hz.out e0
          subst e0
          go_wp2
          go_ret
          exact hfin.out
        · have e1 : (er != 0) = true := by rw [bne_iff_ne]; exact e0
          replace e0 := Lib.hid e0
          go_wp2
          go_ret
          exact hfin.out
    · obtain rfl : k = K := by omega
      have hfin : Hid (EachOut I J k (.returned (.int .i64 0)) wr) := Lib.hid (.inl ⟨rfl, hIk.out⟩)
      clear hIk hbkk hsz
      go_wp2
      go_ret
      exact hfin.out
def EachBad (w : World) (e : Ending) (w' : World) : Prop := e = .returned (.int .i64 1) ∧ Below w.heap.size w w'
theorem Right_calls (w : World) (m f n b : Int) (hm : I64 m) (hf : I64 f) (hn : I64 n) (hb : 0 ≤ b ∧ b ≤ 100000) : Calls Try.prog 13 #[.agg #[.int .i64 m, .int .i64 f, .int .i64 n], .int .i64 b] w (RightTo w (rightP m f n b)) := by
  unfold rightP
  by_cases h : 0 ≤ m ∧ 0 ≤ f ∧ f ≤ 1073741824 ∧ 1 ≤ n ∧ n ≤ 16384
  · have e : decide (0 ≤ m ∧ 0 ≤ f ∧ f ≤ 1073741824 ∧ 1 ≤ n ∧ n ≤ 16384 ∧ m ≤ b - mapsP n) = decide (m ≤ b - mapsP n) := by
      rw [Bool.eq_iff_iff, decide_eq_true_iff, decide_eq_true_iff]
      exact ⟨fun h => h.2.2.2.2.2, fun h2 => ⟨h.1, h.2.1, h.2.2.1, h.2.2.2.1, h.2.2.2.2, h2⟩⟩
    rw [e]
    exact Right_in w m f n b hb h
  · have e : decide (0 ≤ m ∧ 0 ≤ f ∧ f ≤ 1073741824 ∧ 1 ≤ n ∧ n ≤ 16384 ∧ m ≤ b - mapsP n) = false := decide_eq_false fun h2 => h ⟨h2.1, h2.2.1, h2.2.2.1, h2.2.2.2.1, h2.2.2.2.2.1⟩
    rw [e]
    exact Right_no w m f n b hm hf hn hb h
set_option maxRecDepth 100000 in
set_option maxHeartbeats 8000000 in
theorem each_bad (w : World) {gt : Nat} {m f n b : Int} (hm : I64 m) (hf : I64 f) (hn : I64 n) (hb : 0 ≤ b ∧ b ≤ 100000) (hr : rightP m f n b = false) (fv : Value)
    (hblk : ∀ W, Below w.heap.size w W → Calls Try.prog 68 #[.pointer (some ⟨gt, 0, none⟩)] W (Ans W (.int .i64 b))) :
    Calls Try.prog 33 #[.agg #[.int .i64 m, .int .i64 f, .int .i64 n], .pointer (some ⟨gt, 0, none⟩), fv] w (EachBad w) := by
  have hR := Lib.hid (fun W => Right_calls W m f n b hm hf hn hb)
  rw [hr] at hR
  have hblkh := Lib.hid hblk
  have hld := Lib.hid (fun (W : World) (h : Blk W w.heap.size 29 #[.int .i64 m, .int .i64 f, .int .i64 n]) => load_pool h)
  obtain ⟨w1, hw1⟩ : ∃ w1, w.alloc (.cells #[.int .i64 m, .int .i64 f, .int .i64 n] 29) = w1 := ⟨_, rfl⟩
  have hB1 : Hid (Below w.heap.size w w1) := by rw [← hw1]; exact Lib.hid ((Below.refl _ _).alloc (Nat.le_refl _) _)
  have hbk : Hid (Blk w1 w.heap.size 29 #[.int .i64 m, .int .i64 f, .int .i64 n]) := by rw [← hw1]; exact Lib.hid (Blk.new _ _ _)
  clear hblk hr hm hf hn
  go_enter Try.func33, Try.ntmps33
  go_wp2_with fail
  refine wp_mixs (fun W => Blk W w.heap.size 29 #[.int .i64 m, .int .i64 f, .int .i64 n]) [2, 3] (by kernel_rfl) (by kernel_rfl) (by kernel_rfl) (by decide) (show Blk w1.drew _ _ _ from hbk.out) ?_
  (refine mixsq rfl rfl 0 (by decide +kernel) (.agg #[.int .i64 m, .int .i64 f, .int .i64 n]) (fun w' hw' => Or.inl (exec_load rfl rfl (hld.out w' hw'))) (fun K hK => ?_)); go_simp; refine hK _ ?_; clear hK K
  (first | refine mixsq rfl rfl 0 (by decide +kernel) ?_ (fun w' hw' => Or.inl ?_) (fun K hK => ?_) | refine mixsq rfl rfl 1 (by decide +kernel) ?_ (fun w' hw' => Or.inl ?_) (fun K hK => ?_) | refine mixsq rfl rfl 2 (by decide +kernel) ?_ (fun w' hw' => Or.inl ?_) (fun K hK => ?_) | refine mixsq rfl rfl 3 (by decide +kernel) ?_ (fun w' hw' => Or.inl ?_) (fun K hK => ?_) | refine mixsq rfl rfl 4 (by decide +kernel) ?_ (fun w' hw' => Or.inl ?_) (fun K hK => ?_) | refine mixsq rfl rfl 5 (by decide +kernel) ?_ (fun w' hw' => Or.inl ?_) (fun K hK => ?_) | refine mixsq rfl rfl 6 (by decide +kernel) ?_ (fun w' hw' => Or.inl ?_) (fun K hK => ?_) | refine mixsq rfl rfl 7 (by decide +kernel) ?_ (fun w' hw' => Or.inl ?_) (fun K hK => ?_)); rotate_left; (focus (go_simp; rfl)); go_simp; refine hK _ ?_; clear hK K
  refine mixsl rfl rfl (fun K hK => ?_)
  go_simp
  refine (hblkh.out w1.drew hB1.out.drew).mono ?_
  rintro e w2 ⟨rfl, rfl⟩
  have hbk2 : Blk w1.drew w.heap.size 29 #[.int .i64 m, .int .i64 f, .int .i64 n] := hbk.out
  refine hK (fun W => Blk W w.heap.size 29 #[.int .i64 m, .int .i64 f, .int .i64 n]) _ _ (fun _ => ⟨hbk2, fun _ => hbk2⟩) ?_
  clear hK K
  refine mixsl rfl rfl (fun K hK => ?_)
  go_simp
  refine (hR.out w1.drew).mono ?_
  rintro e w2 ⟨rfl, hb2⟩
  have hbk3 : Blk w2 w.heap.size 29 #[.int .i64 m, .int .i64 f, .int .i64 n] := (hb2.block _ hbk.out.lt).trans hbk.out
  have hB2 : Hid (Below w.heap.size w w2) := Lib.hid (hB1.out.drew.trans (hb2.mono hB1.out.size))
  refine hK (fun W => True) _ _ (fun _ => ⟨trivial, ext_all (fun _ => hbk3) hbk3⟩) ?_
  clear hK K hbk2
  (first | refine mixsq rfl rfl 0 (by decide +kernel) ?_ (fun w' hw' => Or.inl ?_) (fun K hK => ?_) | refine mixsq rfl rfl 1 (by decide +kernel) ?_ (fun w' hw' => Or.inl ?_) (fun K hK => ?_) | refine mixsq rfl rfl 2 (by decide +kernel) ?_ (fun w' hw' => Or.inl ?_) (fun K hK => ?_) | refine mixsq rfl rfl 3 (by decide +kernel) ?_ (fun w' hw' => Or.inl ?_) (fun K hK => ?_) | refine mixsq rfl rfl 4 (by decide +kernel) ?_ (fun w' hw' => Or.inl ?_) (fun K hK => ?_) | refine mixsq rfl rfl 5 (by decide +kernel) ?_ (fun w' hw' => Or.inl ?_) (fun K hK => ?_) | refine mixsq rfl rfl 6 (by decide +kernel) ?_ (fun w' hw' => Or.inl ?_) (fun K hK => ?_) | refine mixsq rfl rfl 7 (by decide +kernel) ?_ (fun w' hw' => Or.inl ?_) (fun K hK => ?_)); rotate_left; (focus (go_simp; rfl)); go_simp; refine hK _ ?_; clear hK K
  refine mixs_nil ?_
  clear hb2 hbk hw1 hbk3
  go_wp2
  go_ret
  exact ⟨rfl, hB2.out⟩
end Go.Proofs.Ytefbmbfhhhjgkaa
