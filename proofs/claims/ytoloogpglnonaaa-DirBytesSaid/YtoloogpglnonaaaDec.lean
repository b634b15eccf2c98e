/- Bytes as a node. -/
import Derived.Test.YtoloogpglnonaaaEnc
import Derived.Test.YtoloogpglnonaaaRdsW
import Derived.Laws.CopyOwn
namespace Go.Proofs.Ytoloogpglnonaaa
open Go.RowKit
theorem takeP_ok (rs : List UInt8) (m : Nat) (h : m ≤ rs.length) : takeP rs 0 (m : Int) = (rs.take m, rs.drop m, 0) := by
  unfold takeP
  rw [if_neg (by decide), if_neg (by omega), if_neg (by omega), Int.toNat_natCast]
def zeroNd : Nd := ⟨0, 0, 0, 0, 0, 0, 0, 0, 0, 0, 0, 0, 0⟩
/-- m bytes at k as a number. -/
def numA (b : List UInt8) (k m : Nat) : Nat := numP ((b.drop k).take m)
theorem numA_lt (b : List UInt8) (k m : Nat) (h : m ≤ 4) : numA b k m ≤ 4294967295 := by
  have h1 := numP_lt ((b.drop k).take m)
  have h2 : (256 : Nat) ^ ((b.drop k).take m).length ≤ 4294967296 := Nat.le_trans (Nat.pow_le_pow_right (by omega) (show ((b.drop k).take m).length ≤ 4 by rw [List.length_take]; omega)) (by decide)
  unfold numA
  omega
def rdN (b : List UInt8) : Nd := ⟨numA b 0 1, numA b 2 2, numA b 4 4, numA b 8 4, numA b 12 4, numA b 16 4, numA b 20 4, numA b 24 4, numA b 28 4, numA b 32 4, numA b 36 4, numA b 40 4, numA b 44 4⟩
/-- What is there when so many of the rooms are filled. -/
def partC (b : List UInt8) (k : Nat) : Array Value := #[.int .i64 (numA b 0 1), .int .i64 (if 0 < k then numA b 2 2 else 0), .int .i64 (if 0 < k then numA b 4 4 else 0), .int .i64 (if 1 < k then numA b 8 4 else 0), .int .i64 (if 2 < k then numA b 12 4 else 0), .int .i64 (if 3 < k then numA b 16 4 else 0), .int .i64 (if 4 < k then numA b 20 4 else 0), .int .i64 (if 5 < k then numA b 24 4 else 0), .int .i64 (if 6 < k then numA b 28 4 else 0), .int .i64 (if 7 < k then numA b 32 4 else 0), .int .i64 (if 8 < k then numA b 36 4 else 0), .int .i64 0, .int .i64 0]
theorem stop_store {P : Program} (t : TypeId) {w : World} {ops : Array Oper} {rest : List Oper} {dst : Option Tmp} {ty : TypeId} {pos : String} {after : Array Edge} {g : Option (Nat × Bool)} {a : Act} {Q : Exit → Act → World → Prop} {x y : Operand}
    (h : Stop (wpList P ops Q (⟨dst, .store t x y, ty, pos, after, g⟩ :: rest) a w)) : wpList P ops Q (⟨dst, .store t x y, ty, pos, after, g⟩ :: rest) a w := h
theorem exec_load {P : Program} {o : Oper} {a : Act} {w : World} {ty : TypeId} {x : Operand} {ad : Addr} {v : Value} (ho : o.op = .load ty x) (hx : a.eval x = .pointer (some ad)) (hl : (Instr.loadAt ty (.pointer (some ad))).run P w = .ok v w) :
    (execOp a.eval o).run P w = .ok (.value v) w := by
  unfold execOp
  simp only [ho, hx, Sem.run_bind, hl, Result.andThen_ok, Sem.run_pure]
def RdrNew3 (w : World) (bs : List UInt8) (e : Ending) (w' : World) : Prop := ∃ g b, e = .returned (.pointer (some ⟨g, 0, none⟩)) ∧ w.heap.size ≤ g ∧ Rdr w' g b bs 0 ∧ Below w.heap.size w w' ∧ (∀ k, b.ownBlock = some k → w.heap.size ≤ k ∧ k < w'.heap.size)
set_option maxRecDepth 10000 in
set_option maxHeartbeats 400000 in
theorem NewReader3_calls (w : World) (x : Value) (bs : List UInt8) (hx : Rd w x (bvs bs)) (hl : bs.length ≤ 1000000000) :
    Calls Try.prog 42 #[x] w (RdrNew3 w bs) := by
  obtain ⟨A, c, rfl⟩ := hx.shape8
  go_enter Try.func42, Try.ntmps42
  go_wp2_with fail
  refine (Clone8_calls w _ bs hx hl).mono ?_
  rintro e w1 ⟨r, rfl, k1, k2, k3⟩
  obtain ⟨A1, c1, rfl⟩ := k1.shape
  go_wp2
  go_ret
  refine ⟨_, _, rfl, k2.size, ⟨Blk.new _ _ _, (Rd.of_own k1).alloc _, fun e => ?_⟩, k2.alloc k2.size _, fun k hk => ⟨k3 k hk, ?_⟩⟩
  · have := k1.lt _ e
    omega
  · have h1 := k1.lt _ hk
    have h2 := (((Below.refl _ w1).alloc (Nat.le_refl _) (.cells #[.slice A1 bs.length c1, .int .i64 0] 99))).size
    exact Nat.lt_of_lt_of_le h1 h2
def decP (b : List UInt8) : Nd × Int :=
  if b.length < 64 then (zeroNd, 2) else if 64 < b.length then (zeroNd, 5) else if (openP b).2 ≠ 0 then (zeroNd, (openP b).2) else
    if 2 < (rdN (openP b).1).kind ∨ 8458240 < (rdN (openP b).1).size ∨ encP (rdN (openP b).1) ≠ b then (zeroNd, 3) else (rdN (openP b).1, 0)
def DecOut (w : World) (o : Nd × Int) (e : Ending) (w' : World) : Prop := e = .returned (.tuple #[.agg o.1.cells, .int .i64 o.2]) ∧ Below w.heap.size w w'
theorem Equal_calls (w : World) (x y : Value) (us vs : List UInt8) (hx : Rd w x (bvs us)) (hy : Rd w y (bvs vs)) :
    Calls Try.prog 40 #[x, y] w (Ans w (.bool (us == vs))) := by
  have s1 := run_str (P := Try.prog) w 30 9 5 _ _ Try.underlying30 Try.underlying5 Try.underlying9 hx
  have s2 := run_str (P := Try.prog) w 30 9 5 _ _ Try.underlying30 Try.underlying5 Try.underlying9 hy
  unfold str at s1 s2
  go_enter Try.func40, Try.ntmps40
  go_wp2
  go_ret
  exact ⟨rfl, rfl⟩
end Go.Proofs.Ytoloogpglnonaaa
