/- The log: Format. -/
import Derived.Test.YtefbmbfhhhjgkaaWf
namespace Go.Proofs.Ytefbmbfhhhjgkaa
open Go.RowKit
theorem askW_calls (w : World) {g : Nat} {d : Dk} {S F : Nat → Prop} (hd : DO w g d S F) : Calls Try.prog 49 #[.pointer (some ⟨g, 0, none⟩)] w (Ans w (.int .i64 (askW d))) := by
  have hB := Blocks_callsO w g d S hd
  have hO := Off_callsO w g d S hd
  unfold askW
  generalize d.l.length = N at *
  generalize d.off = off at *
  clear hd
  by_cases hN : N ≤ 65
  · rw [if_pos hN]
    go_enter Try.func49, Try.ntmps49
    go_wp2_with fail
    refine hB.mono ?_
    rintro e w1 ⟨rfl, rfl⟩
    go_wp2
    go_ret
    exact ⟨rfl, rfl⟩
  · rw [if_neg hN]
    cases off
    · rw [if_neg (by decide)]
      go_enter Try.func49, Try.ntmps49
      go_wp2_with fail
      refine hB.mono ?_
      rintro e w1 ⟨rfl, rfl⟩
      go_wp2_with fail
      refine hO.mono ?_
      rintro e w1 ⟨rfl, rfl⟩
      go_wp2
      go_ret
      exact ⟨rfl, rfl⟩
    · rw [if_pos rfl]
      go_enter Try.func49, Try.ntmps49
      go_wp2_with fail
      refine hB.mono ?_
      rintro e w1 ⟨rfl, rfl⟩
      go_wp2_with fail
      refine hO.mono ?_
      rintro e w1 ⟨rfl, rfl⟩
      go_wp2
      go_ret
      exact ⟨rfl, rfl⟩
def freshK (d : Dk) : Lk := ⟨d, fun _ => none, 0, false⟩
def FreshOut (w : World) (g : Nat) (d : Dk) (S F : Nat → Prop) (e : Ending) (w' : World) : Prop := ∃ gl, e = .returned (.pointer (some ⟨gl, 0, none⟩)) ∧ w.heap.size ≤ gl ∧ Below w.heap.size w w' ∧ ∃ S', LO w' gl g (freshK d) S' F ∧ ∀ k, S' k → S k ∨ w.heap.size ≤ k
set_option maxRecDepth 10000 in
theorem fresh_calls (w : World) {g : Nat} {d : Dk} {S F : Nat → Prop} (hd : DO w g d S F) : Calls Try.prog 59 #[.pointer (some ⟨g, 0, none⟩)] w (FreshOut w g d S F) := by
  have hfin : Hid (∀ w', w' = (w.alloc (.map #[] 0)).alloc (.cells #[.pointer (some ⟨g, 0, none⟩), .map (some w.heap.size), .int .i64 0, .bool false] 74) → FreshOut w g d S F (.returned (.pointer (some ⟨w.heap.size + 1, 0, none⟩))) w') := fun w' e => by
    subst e
    have hB : Below w.heap.size w ((w.alloc (.map #[] 0)).alloc (.cells #[.pointer (some ⟨g, 0, none⟩), .map (some w.heap.size), .int .i64 0, .bool false] 74)) := ((Below.refl _ _).alloc (Nat.le_refl _) _).alloc (by rw [World.size_alloc]; omega) _
    have h1 : (w.alloc (.map #[] 0)).heap.size = w.heap.size + 1 := World.size_alloc _ _
    refine ⟨_, rfl, by omega, hB, _, ⟨w.heap.size, fun _ => none, S, ⟨?_, hd.below hB, ?_, fun hs => by have := hd.lt hs; omega, fun hs => by have := hd.lt hs; omega⟩, fun k => Iff.rfl⟩, fun k hk => ?_⟩
    · have := Blk.new (w.alloc (.map #[] 0)) 74 #[.pointer (some ⟨g, 0, none⟩), .map (some w.heap.size), .int .i64 0, .bool false]
      rw [h1] at this
      exact this
    · exact (MBv.made F w _).below ((Below.refl _ _).alloc (Nat.le_refl _) _)
    · rcases hk with hk | rfl | rfl
      · exact .inl hk
      · exact .inr (by omega)
      · exact .inr (by omega)
  clear hd
  go_enter Try.func59, Try.ntmps59
  have hmm := @run_makeMap Try.prog
  go_wp2
  go_ret
  exact hfin.out _ rfl
def FormatOut (w : World) (S F : Nat → Prop) (g : Nat) (o : Int × Dk) (e : Ending) (w' : World) : Prop :=
  (o.1 ≠ 0 ∧ e = .returned (.tuple #[.pointer none, .int .i64 o.1]) ∧ WroteO w S F g o.2 w') ∨
  (o.1 = 0 ∧ ∃ gl, e = .returned (.tuple #[.pointer (some ⟨gl, 0, none⟩), .int .i64 0]) ∧ w.heap.size ≤ gl ∧ LWrote w S F gl g (freshK o.2) w')
set_option maxRecDepth 10000 in
set_option maxHeartbeats 8000000 in
theorem Format_calls (w : World) {g N : Nat} {d : Dk} {S F : Nat → Prop} (hd : DO w g d S F) (hf : Fit N 800000000 d) (hN : N ≤ 16384) : Calls Try.prog 28 #[.pointer (some ⟨g, 0, none⟩)] w (FormatOut w S F g (formatP d)) := by
  obtain ⟨i0, hi, hz0, hz1, hz2⟩ := info_parts Try.info_u8
  have hmk := run_mkr (P := Try.prog) 63 5 i0 (.int .u8 0) Try.underlying63 hi hz0 rfl hz1 512 (by rw [hz2]; omega) (by omega)
  obtain ⟨Zs, hZs⟩ : ∃ Zs, Hid (Zs = List.replicate 512 (Value.int .u8 0)) := ⟨_, Lib.hid rfl⟩
  rw [← hZs.out] at hmk
  have hZb : Hid (Zs = bvs zblk) := by
    show _ = _
    rw [hZs.out]
    unfold zblk bvs
    rw [List.map_replicate]
    rfl
  obtain ⟨wb, hwb⟩ : ∃ wb, wb = w.alloc (.cells #[.pointer (some ⟨g, 0, none⟩)] 55) := ⟨_, rfl⟩
  have hbB : Below w.heap.size w wb := by rw [hwb]; exact (Below.refl _ _).alloc (Nat.le_refl _) _
  have hbs : wb.heap.size = w.heap.size + 1 := by rw [hwb]; exact World.size_alloc _ _
  have hbk : Blk wb w.heap.size 55 #[.pointer (some ⟨g, 0, none⟩)] := by rw [hwb]; exact Blk.new _ _ _
  have hA := Lib.hid (askW_calls wb (hd.below hbB))
  have hd0 := Lib.hid hd
  have hf0 := Lib.hid hf
  have hbB := Lib.hid hbB
  have hbs := Lib.hid hbs
  have hbkh := Lib.hid hbk
  have cb : wb.cell? ⟨w.heap.size, 0, none⟩ = some (.pointer (some ⟨g, 0, none⟩)) := hbk.cell 0
  have hNh := Lib.hid hN
  obtain ⟨o, ho⟩ : ∃ o, Hid (formatP d = o) := ⟨_, Lib.hid rfl⟩
  rw [ho.out]
  clear hd hf hbk hi hz0 hz1 hz2 hZs
  go_enter Try.func28, Try.ntmps28
  go_wp2_with fail
  rw [← hwb]
  clear hwb
  refine hA.out.mono ?_
  rintro e w1 ⟨rfl, rfl⟩
  clear hA
  by_cases ha : askW d = 0
  · have ho2 : Hid (formatW N d = o) := by
      show _ = _
      rw [← ho.out]
      unfold formatP
      rw [if_neg (by simp [ha]), hf0.out.dl]
    rw [ha]
    clear ho ha
    have hmk1 : (Instr.makeSlice 63 (.int .i64 512) (.int .i64 512)).run Try.prog wb = .ok (.slice (some ⟨wb.heap.size, 0, none⟩) 512 512) (wb.alloc (.cells Zs.toArray 5)) := hmk wb
    clear hmk
    have hbz : Hid (Below w.heap.size w (wb.alloc (.cells Zs.toArray 5))) := hbB.out.alloc (by have := hbs.out; omega) _
    have hzs : Hid ((wb.alloc (.cells Zs.toArray 5)).heap.size = w.heap.size + 2) := by show _ = _; rw [World.size_alloc, hbs.out]
    have hbk2 : Hid (Blk (wb.alloc (.cells Zs.toArray 5)) w.heap.size 55 #[.pointer (some ⟨g, 0, none⟩)]) := hbkh.out.alloc _
    have hrz : Hid (Rd (wb.alloc (.cells Zs.toArray 5)) (.slice (some ⟨w.heap.size + 1, 0, none⟩) 512 512) (bvs zblk)) := by
      have := rd_new wb Zs 5 512 (by rw [hZb.out, bvs_length, zblk_len])
      rw [hbs.out, hZb.out] at this
      rw [hZb.out]
      exact this
    generalize wb.alloc (.cells Zs.toArray 5) = wz at *
    obtain ⟨wy, hwy⟩ : ∃ wy, wy = wz.alloc (.cells #[.slice (some ⟨w.heap.size + 1, 0, none⟩) 512 512] 63) := ⟨_, rfl⟩
    have hby : Hid (Below w.heap.size w wy) := by show Below _ _ _; rw [hwy]; exact hbz.out.alloc (by have := hzs.out; omega) _
    have hys : Hid (wy.heap.size = w.heap.size + 3) := by show _ = _; rw [hwy, World.size_alloc, hzs.out]
    have hEy : FEnv wy g w.heap.size (w.heap.size + 2) (w.heap.size + 1) := by
      rw [hwy]
      refine ⟨hbk2.out.alloc _, ?_, hrz.out.alloc _⟩
      have := Blk.new wz 63 #[.slice (some ⟨w.heap.size + 1, 0, none⟩) 512 512]
      rw [hzs.out] at this
      exact this
    have hEyh := Lib.hid hEy
    have cy : wy.cell? ⟨w.heap.size, 0, none⟩ = some (.pointer (some ⟨g, 0, none⟩)) := hEy.bd.cell 0
    rw [hwy] at cy
    have hzs2 := hzs.out
    clear hbz hbk2 hrz hEy hbs cb hbkh hbB
    go_wp2_with fail
    rw [← hwy]
    clear cy hwy hmk1
    obtain ⟨w4, hw4⟩ : ∃ w4, w4 = wy.alloc (.cells #[.func (.func 55) #[] #[.pointer (some ⟨w.heap.size, 0, none⟩), .pointer (some ⟨w.heap.size + 2, 0, none⟩)], .func (.func 56) #[.pointer (some ⟨g, 0, none⟩)] #[], .func (.func 50) #[] #[.pointer (some ⟨w.heap.size, 0, none⟩), .pointer (some ⟨w.heap.size + 2, 0, none⟩)], .func (.func 56) #[.pointer (some ⟨g, 0, none⟩)] #[], .func (.func 57) #[] #[.pointer (some ⟨w.heap.size, 0, none⟩)], .func (.func 56) #[.pointer (some ⟨g, 0, none⟩)] #[]] 46) := ⟨_, rfl⟩
    rw [← hw4]
    have hB4 : Below w.heap.size w w4 := by rw [hw4]; exact hby.out.alloc (by have := hys.out; omega) _
    have hE4 : FEnv w4 g w.heap.size (w.heap.size + 2) (w.heap.size + 1) := by
      rw [hw4]
      exact hEyh.out.chg (S := fun _ => False) (Chg.of_below ((Below.refl _ _).alloc (Nat.le_refl _) _)) id id id
    have hx4 : Rd w4 (.slice (some ⟨w.heap.size + 2 + 1, 0, none⟩) 6 6) [.func (.func 55) #[] #[.pointer (some ⟨w.heap.size, 0, none⟩), .pointer (some ⟨w.heap.size + 2, 0, none⟩)], .func (.func 56) #[.pointer (some ⟨g, 0, none⟩)] #[], .func (.func 50) #[] #[.pointer (some ⟨w.heap.size, 0, none⟩), .pointer (some ⟨w.heap.size + 2, 0, none⟩)], .func (.func 56) #[.pointer (some ⟨g, 0, none⟩)] #[], .func (.func 57) #[] #[.pointer (some ⟨w.heap.size, 0, none⟩)], .func (.func 56) #[.pointer (some ⟨g, 0, none⟩)] #[]] := by
      have := rd_new wy [.func (.func 55) #[] #[.pointer (some ⟨w.heap.size, 0, none⟩), .pointer (some ⟨w.heap.size + 2, 0, none⟩)], .func (.func 56) #[.pointer (some ⟨g, 0, none⟩)] #[], .func (.func 50) #[] #[.pointer (some ⟨w.heap.size, 0, none⟩), .pointer (some ⟨w.heap.size + 2, 0, none⟩)], .func (.func 56) #[.pointer (some ⟨g, 0, none⟩)] #[], .func (.func 57) #[] #[.pointer (some ⟨w.heap.size, 0, none⟩)], .func (.func 56) #[.pointer (some ⟨g, 0, none⟩)] #[]] 46 6 rfl
      rw [hys.out] at this
      rw [hw4]
      exact this
    have hlt := fun k (hk : S k) => hd0.out.lt hk
    have hbd : ¬ S w.heap.size := fun h => by have := hlt _ h; omega
    have hbe : ¬ S (w.heap.size + 2) := fun h => by have := hlt _ h; omega
    have hbz : ¬ S (w.heap.size + 1) := fun h => by have := hlt _ h; omega
    have hall := Lib.hid (all_calls w4 _ _ hx4 (hd0.out.below hB4) (fun k hk hs => by
      have hk : w.heap.size + 2 + 1 = k := by simpa [Value.ownBlock] using hk
      have := hlt _ hs
      omega) [wrW 0 zblk, syncW, cleanW N, syncW, wrW 0 (headP []), syncW] rfl (g := g) (N := N) (fun i h h' => by
        rcases i with _ | _ | _ | _ | _ | _ | i
        · exact f2_step w4 S g N _ _ _ hNh.out (B := 900000000) (Nat.le_refl _) hE4 hbd hbe hbz
        · exact sync_step w4 S g N hNh.out (B := 900000000) (Nat.le_refl _)
        · exact f1_step w4 S g N _ _ _ hNh.out (B := 900000000) (Nat.le_refl _) hE4 hbd hbe hbz
        · exact sync_step w4 S g N hNh.out (B := 900000000) (Nat.le_refl _)
        · exact f3_step w4 S g N _ hNh.out (B := 900000000) (Nat.le_refl _) hE4.bd hbd
        · exact sync_step w4 S g N hNh.out (B := 900000000) (Nat.le_refl _)
        · exfalso; simp only [List.length_cons, List.length_nil] at h; omega) (cc := N + 1) (fun f hf => by
          simp only [List.mem_cons, List.not_mem_nil, or_false] at hf
          rcases hf with rfl | rfl | rfl | rfl | rfl | rfl
          · exact (Gr.write N _ _).mono (by omega)
          · exact (Gr.sync N).mono (by omega)
          · exact (Gr.cleanW N N).mono (by omega)
          · exact (Gr.sync N).mono (by omega)
          · exact (Gr.write N _ _).mono (by omega)
          · exact (Gr.sync N).mono (by omega)) hf0.out (by have := hNh.out; simp only [List.length_cons, List.length_nil]; omega) (by simp))
    have hE4 := Lib.hid hE4
    have hB4 := Lib.hid hB4
    have hbd := Lib.hid hbd
    clear hx4 hlt hbe hbz hw4 hEyh hby hys hzs hzs2 hZb
    refine hall.out.mono ?_
    rintro e w5 ⟨rfl, hw⟩
    rw [show seqW [wrW 0 zblk, syncW, cleanW N, syncW, wrW 0 (headP []), syncW] d = o from ho2.out] at hw ⊢
    have hwq := Lib.hid (WroteO.from hB4.out hw)
    have cb5 : w5.cell? ⟨w.heap.size, 0, none⟩ = some (.pointer (some ⟨g, 0, none⟩)) := by
      obtain ⟨_, _, _, hc, _⟩ := hw
      exact (hE4.out.bd.chg hc hbd.out).cell 0
    clear hall hw hE4 hB4 ho2
    obtain ⟨er, od⟩ := o
    dsimp only at hwq ⊢
    by_cases h0 : er = 0
    · subst h0
      obtain ⟨S1, F1, hd1, hc1, hs1, hf1⟩ := hwq.out
      have hfr := Lib.hid (fresh_calls w5 hd1)
      have hd1 := Lib.hid hd1
      have hc1 := Lib.hid hc1
      clear hwq
      go_wp2_with fail
      refine hfr.out.mono ?_
      rintro e w6 ⟨gl, rfl, hgl, hb6, S2, hl2, hs2⟩
      have hfin : Hid (FormatOut w S F g (0, od) (.returned (.tuple #[.pointer (some ⟨gl, 0, none⟩), .int .i64 0])) w6) := by
        right
        refine ⟨rfl, gl, rfl, Nat.le_trans hc1.out.size hgl, S2, F1, hl2, hc1.out.then_ (S' := fun _ => False) (Chg.of_below hb6) (fun _ _ h => h.elim), fun k hk => ?_, hf1⟩
        rcases hs2 k hk with h | h
        · exact hs1 k h
        · exact .inr (Nat.le_trans hc1.out.size h)
      clear hfr hl2 hs2 hb6 hgl hd1 hc1
      go_wp2
      go_ret2
      exact hfin.out
    · have hfin : Hid (FormatOut w S F g (er, od) (.returned (.tuple #[.pointer none, .int .i64 er])) w5) := .inl ⟨h0, rfl, hwq.out⟩
      clear hwq
      go_wp2
      go_ret2
      exact hfin.out
  · have hfin : Hid (FormatOut w S F g o (.returned (.tuple #[.pointer none, .int .i64 (askW d)])) wb) := by
      left
      rw [← ho.out]
      unfold formatP
      rw [if_pos ha]
      exact ⟨ha, rfl, WroteO.from hbB.out (WroteO.refl (hd0.out.below hbB.out))⟩
    generalize askW d = er at *
    clear ho
    go_wp2
    go_ret2
    exact hfin.out
end Go.Proofs.Ytefbmbfhhhjgkaa
