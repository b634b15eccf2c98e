/- slices.Chunk: its contract. -/
import Derived.Test.YtoloogpglnonaaaDd
import Derived.RangeFuncNested
import Derived.RangeFuncBound
import Derived.RangeFuncCalls
import Derived.RangeFuncLeaves
import Derived.RangeFuncBox
import Derived.Shelf.Abstract
import Derived.Shelf.RegionOpen
import Derived.WalkKit
import Derived.OwnWalkIn
import Derived.TacticsInMore
import Derived.LoopNIn
import Derived.LoopIn
namespace Go.Proofs.Ytoloogpglnonaaa
open Go.RowKit Go.Shelf
attribute [local go_sem] Oper.semAt_some
set_option maxHeartbeats 2000000 in
theorem Chunk_calls (w : World) (A : Option Addr) (len cap : Nat) :
    Calls Try.prog 50 #[.slice A len cap, .int .i64 64] w fun e w' => e = .returned (.func (.func 61) #[] #[.pointer (some ⟨w.heap.size, 0, none⟩), .pointer (some ⟨w.heap.size + 1, 0, none⟩)]) ∧
      w' = (w.alloc (.cells #[.slice A len cap] 30)).alloc (.cells #[.int .i64 64] 3) := by
  go_enter Try.func50, Try.ntmps50
  go_wp2
  go_ret
  exact ⟨rfl, rfl⟩
/-- What the rounds leave alone: what lay below n0, and the iterator's own two boxes. -/
def Kc (n0 Bs Bn : Nat) (W W' : World) : Prop := Below n0 W W' ∧ ∀ k, k = Bs ∨ k = Bn → ∀ cs t fr, W.heap[k]? = some (.cells cs t fr) → W'.heap[k]? = some (.cells cs t fr)
theorem Kc.trans {n0 Bs Bn : Nat} {A B C : World} (h : Kc n0 Bs Bn A B) (k : Kc n0 Bs Bn B C) : Kc n0 Bs Bn A C := ⟨h.1.trans k.1, fun j hj cs t fr e => k.2 j hj cs t fr (h.2 j hj cs t fr e)⟩
theorem Kc.refl (n0 Bs Bn : Nat) (A : World) : Kc n0 Bs Bn A A := ⟨Below.refl _ _, fun _ _ _ _ _ e => e⟩
theorem Kc.book {n0 Bs Bn : Nat} {w : World} (hn : n0 ≤ w.heap.size) (W : World) (l : Nat) (o o' : Obj) (hl : w.heap.size ≤ l) (h : W.heap[l]? = some o) (hc : o.isCells = false) (hw : o.isWalk = false) : Kc n0 Bs Bn W (W.putObj l o') :=
  ⟨belowK_b hn W l o o' hl h hc hw, fun k _ cs t fr e => by
    have hne : k ≠ l := by
      rintro rfl
      rw [h] at e
      cases e
      cases hc
    exact (World.putObj_heap_other hne).trans e⟩
set_option maxRecDepth 100000 in
set_option maxHeartbeats 4000000 in
theorem chunk1_in (n l Bs Bn n0 : Nat) (hn : 1 ≤ n) (A : Option Addr) (cap m : Nat) (hcap : 64 * m ≤ cap) (hm : m ≤ 1000000000) (J Jx : List {k : Nat // k < m} → World → Prop)
    (hY : ∀ (pre : List {k : Nat // k < m}) (k : {k : Nat // k < m}) (W : World), J pre W → pre.length < m → YieldAt Fence.wide (n - 1) Try.prog l #[.slice (A.map (·.add (64 * k.1))) 64 64] W fun e W' =>
      (e = .returned (.bool true) ∧ J (pre ++ [k]) W' ∧ Kc n0 Bs Bn W W') ∨ (e = .returned (.bool false) ∧ Jx (pre ++ [k]) W'))
    (hJdr : ∀ pre V, J pre V → J pre V.drew) (W : World) (hBs : Blk W Bs 30 #[.slice A (64 * m) cap]) (hBn : Blk W Bn 3 #[.int .i64 64]) (h0 : J [] W) :
    CallsIn Fence.wide n Try.prog 61 #[.func (.yield l) #[] #[], .pointer (some ⟨Bs, 0, none⟩), .pointer (some ⟨Bn, 0, none⟩)] W fun e W' => (∃ v, e = .returned v) ∧
      ((∃ pre : List {k : Nat // k < m}, pre.map Subtype.val = List.range m ∧ J pre W') ∨ (∃ (k : Nat) (pre : List {k : Nat // k < m}), k ≤ m ∧ pre.map Subtype.val = List.range k ∧ Jx pre W')) := by
  obtain ⟨M, hM⟩ : ∃ M, Hid (M = 64 * m) := ⟨_, rfl⟩
  have hcM : M ≤ cap := by rw [hM.out]; exact hcap
  have hmM : M ≤ 64000000000 := by rw [hM.out]; omega
  rw [← hM.out] at hBs
  have hBs := Lib.hid hBs
  have hBn := Lib.hid hBn
  obtain ⟨i0, hi, hz0, hz1, hz2⟩ := info_parts Try.info_u8
  refine callsIn_of_wp Try.func61 rfl trivial ?_ rfl
  simp only [Try.ntmps61, List.size_toArray, List.length_cons, List.length_nil, Nat.reduceAdd, Nat.reduceSub, Array.replicate_succ, Array.replicate_zero, List.push_toArray, List.append_toArray, List.nil_append, List.cons_append]
  gi_wp2
  gi_loopw [4, 5] (fun i _ wr => ∃ (k q : Nat) (pre : List {k : Nat // k < m}), k ≤ m ∧ Hid (q = 64 * k) ∧ i = .int .i64 (q : Int) ∧ Hid (pre.map Subtype.val = List.range k) ∧ Hid (J pre wr) ∧ Hid (Kc n0 Bs Bn W wr)) (fun i _ _ => M - (intOf i).toNat)
  case atStart => exact ⟨0, 0, [], Nat.zero_le _, rfl, rfl, rfl, h0, Kc.refl _ _ _ _⟩
  case round =>
    obtain ⟨k, q, pre, hk, hq, rfl, hpk, hJs, hnx⟩ := hrel
    have b1 : Blk wr Bs 30 #[.slice A M cap] := hnx.out.2 _ (.inl rfl) _ _ _ hBs.out
    have b2 : Blk wr Bn 3 #[.int .i64 64] := hnx.out.2 _ (.inr rfl) _ _ _ hBn.out
    have c1 : wr.cell? ⟨Bs, 0, none⟩ = some (.slice A M cap) := b1.cell 0
    have c2 : wr.cell? ⟨Bn, 0, none⟩ = some (.int .i64 64) := b2.cell 0
    by_cases hlt : k < m
    · obtain ⟨fn, tmps, assign, body, hy, hR⟩ := hY _ ⟨k, hlt⟩ wr.drew (hJdr _ _ hJs.out) (by have := congrArg List.length hpk.out; rw [List.length_map, List.length_range] at this; omega)
      simp only at hy
      rw [← hq.out] at hy
      have hqM : q + 64 ≤ M := by rw [hM.out, hq.out]; omega
      have hqM2 : (q : Int) < (M : Int) := by omega
      have hsl : ∀ V : World, Sem.run Try.prog (Instr.slice 30 (.slice A M cap) (some (.int .i64 (q : Int))) none none) V = .ok (.slice (A.map (·.add q)) (M - q) (cap - q)) V := by
        intro V
        have b2 : (0 : Int) ≤ (q : Int) ∧ (q : Int) ≤ (M : Int) := by omega
        have b4 : ¬ (cap = q) := by omega
        simp [Instr.slice, Instr.sliceBounds, Instr.sliceBound, run_underlying Try.underlying30, sizeOf, typeInfo, hi, hz1, asIntOf, b2, b4]
        omega
      have hs3 : ∀ V : World, Sem.run Try.prog (Instr.slice 30 (.slice A M cap) (some (.int .i64 (q : Int))) (some (.int .i64 ((q : Int) + 64))) (some (.int .i64 ((q : Int) + 64)))) V = .ok (.slice (A.map (·.add q)) 64 64) V := by
        intro V
        have b1 : (0 : Int) ≤ (q : Int) + 64 ∧ (q : Int) + 64 ≤ (cap : Int) := by omega
        have b2 : (0 : Int) ≤ (q : Int) ∧ (q : Int) ≤ (q : Int) + 64 := by omega
        have b3 : ((q : Int) + 64).toNat = q + 64 := by omega
        have b4 : ¬ (q + 64 = q) := by omega
        have b5 : q + 64 - q = 64 := by omega
        have b6 : (0 : Int) ≤ (q : Int) + 64 := by omega
        simp [Instr.slice, Instr.sliceBounds, Instr.sliceBound, run_underlying Try.underlying30, sizeOf, typeInfo, hi, hz1, asIntOf, b1, b2, b3, b4, b5, b6]
      have him : imin 64 ((M - q : Nat) : Int) = 64 := by unfold imin; omega
      have hmn := @run_imin Try.prog
      have e1 : IntKind.i64.wrap ((q : Int) + 64) = (q : Int) + 64 := by rw [IntKind.wrap_i64]; omega
      gi_wp2
      refine wpIn_wide.2 ?_
      refine wp_mixs (fun V => V.cell? ⟨Bs, 0, none⟩ = some (.slice A M cap) ∧ V.cell? ⟨Bn, 0, none⟩ = some (.int .i64 64)) [] (by kernel_rfl) (by kernel_rfl) (by kernel_rfl) (by decide) ⟨c1, c2⟩ ?_
      iterate 7 (refine mixsq rfl rfl 0 (by decide +kernel) ?_ (fun w' hw' => Or.inl ?_) (fun K hK => ?_); rotate_left; (focus (have k1 : w'.cell? ⟨Bs, 0, none⟩ = some (.slice A M cap) := hw'.1; have k2 : w'.cell? ⟨Bn, 0, none⟩ = some (.int .i64 64) := hw'.2; go_simp; rfl)); go_simp; refine hK _ ?_; clear hK K)
      refine mixs_nil ?_
      have c1 : wr.drew.cell? ⟨Bs, 0, none⟩ = some (.slice A M cap) := c1
      have c2 : wr.drew.cell? ⟨Bn, 0, none⟩ = some (.int .i64 64) := c2
      gi_wp2
      refine hR.mono ?_
      rintro e W3 (⟨rfl, hJ3, hk3⟩ | ⟨rfl, hJx3⟩)
      · have hp1 : Hid ((pre ++ [⟨k, hlt⟩] : List {k : Nat // k < m}).map Subtype.val = List.range (k + 1)) := by show _ = _; rw [List.map_append, hpk.out, List.range_succ]; rfl
        have b1 : Blk W3 Bs 30 #[.slice A M cap] := hk3.2 _ (.inl rfl) _ _ _ b1
        have b2 : Blk W3 Bn 3 #[.int .i64 64] := hk3.2 _ (.inr rfl) _ _ _ b2
        have c1 : W3.cell? ⟨Bs, 0, none⟩ = some (.slice A M cap) := b1.cell 0
        have c2 : W3.cell? ⟨Bn, 0, none⟩ = some (.int .i64 64) := b2.cell 0
        have hJ3 := Lib.hid hJ3
        have hk3 := Lib.hid (hnx.out.trans ((show Kc n0 Bs Bn wr wr.drew from ⟨(Below.refl _ _).drew, fun _ _ _ _ _ e => e⟩).trans hk3))
        gi_wp2
        go_roundw
        case rel => exact ⟨k + 1, q + 64, _, by omega, by show _ = _; rw [hq.out]; omega, by go_num, hp1, hJ3, hk3⟩
        case measure => simp [intOf]; omega
      · have hp1 : Hid ((pre ++ [⟨k, hlt⟩] : List {k : Nat // k < m}).map Subtype.val = List.range (k + 1)) := by show _ = _; rw [List.map_append, hpk.out, List.range_succ]; rfl
        gi_wp2
        refine bodyPost_ret (results_none rfl _ _ _) rfl ?_
        exact ⟨⟨_, rfl⟩, .inr ⟨k + 1, _, by omega, hp1, hJx3⟩⟩
    · obtain rfl : k = m := by omega
      have hqM : q = M := by rw [hM.out, hq.out]
      subst hqM
      gi_wp2
      go_end0
      exact ⟨⟨_, rfl⟩, .inl ⟨_, hpk.out, hJs.out⟩⟩
theorem chunk_stops (n Bs Bn n0 : Nat) (hn : 1 ≤ n) (A : Option Addr) (cap m : Nat) (hcap : 64 * m ≤ cap) (hm : m ≤ 1000000000) (w : World) (hBs : Blk w Bs 30 #[.slice A (64 * m) cap]) (hBn : Blk w Bn 3 #[.int .i64 64]) :
    SeqStopsK Fence.wide n Try.prog 61 #[.pointer (some ⟨Bs, 0, none⟩), .pointer (some ⟨Bn, 0, none⟩)] (fun k : {k : Nat // k < m} => #[.slice (A.map (·.add (64 * k.1))) 64 64]) (Kc n0 Bs Bn) (fun ys => ys.map Subtype.val = List.range m) (fun pre => ∃ k, k ≤ m ∧ pre.map Subtype.val = List.range k) m w :=
  fun l J Jx W hW hJ _ hY h0 => (chunk1_in n l Bs Bn n0 hn A cap m hcap hm J Jx hY (fun pre V h => hJ pre V V.drew none h ⟨rfl, rfl, rfl, Nat.le_refl _, fun _ _ _ => rfl⟩ (fun r e => by cases e)) W
    (hBs.chg (Chg.of_below (hW.mono (Nat.le_refl _))) (S := fun _ => False) id) (hBn.chg (Chg.of_below (hW.mono (Nat.le_refl _))) (S := fun _ => False) id) h0).mono fun e W' h => by
      obtain ⟨he, ⟨pre, hp, hj⟩ | ⟨k, pre, hk, hp, hj⟩⟩ := h
      · exact ⟨he, .inl ⟨_, hp, hj⟩⟩
      · exact ⟨he, .inr ⟨_, ⟨k, hk, hp⟩, hj⟩⟩
end Go.Proofs.Ytoloogpglnonaaa
