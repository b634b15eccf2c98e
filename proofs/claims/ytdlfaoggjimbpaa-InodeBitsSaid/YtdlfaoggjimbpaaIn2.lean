/- Where the number of a block stands. -/
import Derived.Test.YtdlfaoggjimbpaaIn1
namespace Go.Proofs.Ytdlfaoggjimbpaa
open Go.RowKit
def whereP (i : Int) : Int × Int × Int × Int :=
  if i < 0 ∨ 16520 ≤ i then (0, 0, 0, 1) else if i < 8 then (0, i, 0, 0) else if i < 136 then (1, i - 8, 0, 0) else (2, (i - 136) / 128, (i - 136) % 128, 0)
def placeV (o : Int × Int × Int × Int) : Value := .agg #[.int .i64 o.1, .int .i64 o.2.1, .int .i64 o.2.2.1]
def WhOut (w : World) (o : Int × Int × Int × Int) (e : Ending) (w' : World) : Prop := e = .returned (.tuple #[placeV o, .int .i64 o.2.2.2]) ∧ Below w.heap.size w w'
theorem loadVar_blk {P : Program} {w : World} {g ty : Nat} {cs : Array Value} {d : TypeDesc} (hb : Blk w g ty cs) (hu : P.underlying ty = some d) (hd : d.isRow = true) (hi : (P.info? ty).map (·.size) = some cs.size) :
    (loadVar ty ⟨g, 0, none⟩).run P w = .ok (.agg cs) w := by
  have h := run_loadAt_cells (P := P) w ⟨g, 0, none⟩ ty cs.toList d (fun j u hu => by
    rw [addr_add_at, hb.cell]
    simpa using hu) hu hd (by simpa using hi)
  simpa [Instr.loadAt, Instr.sureAddr] using h
theorem results_cell_tmp {fn : Func} {t u : Tmp} {ty : TypeId} {P : Program} {w : World} {tmps : Array Value} {ad : Addr} {v : Value} (h : fn.results = #[.cell t ty, .tmp u]) (ht : tmps.getD t undef = .pointer (some ad)) (hl : (loadVar ty ad).run P w = .ok v w) :
    (results fn tmps).run P w = .ok (.tuple #[v, tmps.getD u undef]) w := by
  have ht' : tmps[t]?.getD undef = .pointer (some ad) := by simpa using ht
  simp [results, h, ht', asAddr, Sem.run_bind, hl]
set_option maxHeartbeats 1000000 in
theorem Where_calls (w : World) (i : Int) (n1 : -9223372036854775808 ≤ i) (n2 : i ≤ 9223372036854775807) : Calls Try.prog 44 #[.int .i64 i] w (WhOut w (whereP i)) := by
  rcases (show i < 0 ∨ (0 ≤ i ∧ 16520 ≤ i) ∨ (0 ≤ i ∧ i < 8) ∨ (8 ≤ i ∧ i < 136) ∨ (136 ≤ i ∧ i < 16520) by omega) with h | ⟨h1, h2⟩ | ⟨h1, h2⟩ | ⟨h1, h2⟩ | ⟨h1, h2⟩
  · have e : whereP i = (0, 0, 0, 1) := by unfold whereP; rw [if_pos (by omega)]
    rw [e]
    clear e
    go_enter Try.func44, Try.ntmps44
    go_wp2
    (try simp only [Exit.inBlock, Exit.then])
    refine bodyPost_ret (results_cell_tmp (ty := 71) rfl rfl (loadVar_blk (Blk.new _ _ _) Try.underlying71 rfl (by kernel_rfl))) rfl ?_
    exact ⟨rfl, (Below.refl _ _).alloc (Nat.le_refl _) _⟩
  · have e : whereP i = (0, 0, 0, 1) := by unfold whereP; rw [if_pos (by omega)]
    rw [e]
    clear e
    have HM := Lib.hid (fun W => Most_calls W)
    go_enter Try.func44, Try.ntmps44
    go_wp2_with fail
    refine (HM.out _).mono ?_
    rintro e w1 ⟨rfl, rfl⟩
    go_wp2
    (try simp only [Exit.inBlock, Exit.then])
    refine bodyPost_ret (results_cell_tmp (ty := 71) rfl rfl (loadVar_blk (Blk.new _ _ _) Try.underlying71 rfl (by kernel_rfl))) rfl ?_
    exact ⟨rfl, (Below.refl _ _).alloc (Nat.le_refl _) _⟩
  · have e : whereP i = (0, i, 0, 0) := by unfold whereP; rw [if_neg (by omega), if_pos (by omega)]
    rw [e]
    clear e
    have HM := Lib.hid (fun W => Most_calls W)
    have k1 : i < 16520 := by omega
    have k2 : i < 136 := by omega
    go_enter Try.func44, Try.ntmps44
    go_wp2_with fail
    refine (HM.out _).mono ?_
    rintro e w1 ⟨rfl, rfl⟩
    go_wp2
    (try simp only [Exit.inBlock, Exit.then])
    refine bodyPost_ret (results_cell_tmp (ty := 71) rfl rfl (loadVar_blk ((Blk.new _ _ _).alloc _) Try.underlying71 rfl (by kernel_rfl))) rfl ?_
    exact ⟨rfl, ((Below.refl _ _).alloc (Nat.le_refl _) _).alloc (by simp) _⟩
  · have e : whereP i = (1, i - 8, 0, 0) := by unfold whereP; rw [if_neg (by omega), if_neg (by omega), if_pos (by omega)]
    rw [e]
    clear e
    have HM := Lib.hid (fun W => Most_calls W)
    have k1 : i < 16520 := by omega
    have k2 : ¬ i < 8 := by omega
    have k3 : 0 ≤ i := by omega
    go_enter Try.func44, Try.ntmps44
    go_wp2_with fail
    refine (HM.out _).mono ?_
    rintro e w1 ⟨rfl, rfl⟩
    go_wp2
    (try simp only [Exit.inBlock, Exit.then])
    refine bodyPost_ret (results_cell_tmp (ty := 71) rfl rfl (loadVar_blk ((Blk.new _ _ _).alloc _) Try.underlying71 rfl (by kernel_rfl))) rfl ?_
    exact ⟨rfl, ((Below.refl _ _).alloc (Nat.le_refl _) _).alloc (by simp) _⟩
  · have e : whereP i = (2, (i - 136) / 128, (i - 136) % 128, 0) := by unfold whereP; rw [if_neg (by omega), if_neg (by omega), if_neg (by omega)]
    rw [e]
    clear e
    have HM := Lib.hid (fun W => Most_calls W)
    have k1 : i < 16520 := by omega
    have k2 : ¬ i < 8 := by omega
    have k3 : 0 ≤ i := by omega
    go_enter Try.func44, Try.ntmps44
    go_wp2_with fail
    refine (HM.out _).mono ?_
    rintro e w1 ⟨rfl, rfl⟩
    go_wp2
    (try simp only [Exit.inBlock, Exit.then])
    refine bodyPost_ret (results_cell_tmp (ty := 71) rfl rfl (loadVar_blk ((Blk.new _ _ _).alloc _) Try.underlying71 rfl (by kernel_rfl))) rfl ?_
    exact ⟨rfl, ((Below.refl _ _).alloc (Nat.le_refl _) _).alloc (by simp) _⟩
set_option maxHeartbeats 1000000 in
theorem RWhere_calls (w : World) (i : Int) (n1 : -9223372036854775808 ≤ i) (n2 : i ≤ 9223372036854775807) : Calls Try.prog 45 #[.int .i64 i] w (WhOut w (whereP i)) := by
  rcases (show i < 0 ∨ (0 ≤ i ∧ 16520 ≤ i) ∨ (0 ≤ i ∧ i < 8) ∨ (8 ≤ i ∧ i < 136) ∨ (136 ≤ i ∧ i < 16520) by omega) with h | ⟨h1, h2⟩ | ⟨h1, h2⟩ | ⟨h1, h2⟩ | ⟨h1, h2⟩
  · have e : whereP i = (0, 0, 0, 1) := by unfold whereP; rw [if_pos (by omega)]
    rw [e]
    clear e
    go_enter Try.func45, Try.ntmps45
    go_wp2
    (try simp only [Exit.inBlock, Exit.then])
    refine bodyPost_ret (results_cell_tmp (ty := 74) rfl rfl (loadVar_blk (Blk.new _ _ _) Try.underlying74 rfl (by kernel_rfl))) rfl ?_
    exact ⟨rfl, (Below.refl _ _).alloc (Nat.le_refl _) _⟩
  · have e : whereP i = (0, 0, 0, 1) := by unfold whereP; rw [if_pos (by omega)]
    rw [e]
    clear e
    go_enter Try.func45, Try.ntmps45
    go_wp2
    (try simp only [Exit.inBlock, Exit.then])
    refine bodyPost_ret (results_cell_tmp (ty := 74) rfl rfl (loadVar_blk (Blk.new _ _ _) Try.underlying74 rfl (by kernel_rfl))) rfl ?_
    exact ⟨rfl, (Below.refl _ _).alloc (Nat.le_refl _) _⟩
  · have e : whereP i = (0, i, 0, 0) := by unfold whereP; rw [if_neg (by omega), if_pos (by omega)]
    rw [e]
    clear e
    have k1 : i < 16520 := by omega
    have k3 : 0 ≤ i := by omega
    go_enter Try.func45, Try.ntmps45
    go_wp2
    (try simp only [Exit.inBlock, Exit.then])
    refine bodyPost_ret (results_cell_tmp (ty := 74) rfl rfl (loadVar_blk (Blk.new _ _ _) Try.underlying74 rfl (by kernel_rfl))) rfl ?_
    exact ⟨rfl, (Below.refl _ _).alloc (Nat.le_refl _) _⟩
  · have e : whereP i = (1, i - 8, 0, 0) := by unfold whereP; rw [if_neg (by omega), if_neg (by omega), if_pos (by omega)]
    rw [e]
    clear e
    have k1 : i < 16520 := by omega
    have k3 : 0 ≤ i := by omega
    have k2 : ¬ i < 8 := by omega
    go_enter Try.func45, Try.ntmps45
    go_wp2
    (try simp only [Exit.inBlock, Exit.then])
    refine bodyPost_ret (results_cell_tmp (ty := 74) rfl rfl (loadVar_blk (Blk.new _ _ _) Try.underlying74 rfl (by kernel_rfl))) rfl ?_
    exact ⟨rfl, (Below.refl _ _).alloc (Nat.le_refl _) _⟩
  · have e : whereP i = (2, (i - 136) / 128, (i - 136) % 128, 0) := by unfold whereP; rw [if_neg (by omega), if_neg (by omega), if_neg (by omega)]
    rw [e]
    clear e
    have k1 : i < 16520 := by omega
    have k3 : 0 ≤ i := by omega
    have k2 : ¬ i < 8 := by omega
    go_enter Try.func45, Try.ntmps45
    go_wp2
    (try simp only [Exit.inBlock, Exit.then])
    refine bodyPost_ret (results_cell_tmp (ty := 74) rfl rfl (loadVar_blk (Blk.new _ _ _) Try.underlying74 rfl (by kernel_rfl))) rfl ?_
    refine ⟨?_, (Below.refl _ _).alloc (Nat.le_refl _) _⟩
    rw [show i - 8 - 128 = i - 136 by omega, show (i - 8) % 128 = (i - 136) % 128 by omega]
    rfl
end Go.Proofs.Ytdlfaoggjimbpaa
