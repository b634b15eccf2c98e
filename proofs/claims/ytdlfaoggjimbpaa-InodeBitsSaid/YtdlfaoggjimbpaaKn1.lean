import Derived.Test.YtdlfaoggjimbpaaSeal
import Derived.Lib.SlBytesConst
namespace Go.Proofs.Ytdlfaoggjimbpaa
open Go.RowKit

def str (bs : List UInt8) : Value := .string ⟨bs.toArray⟩
theorem run_str {P : Program} (w : World) (src dst e : TypeId) (v : Value) (bs : List UInt8) (hs : P.underlying src = some (.slice e)) (he : P.underlying e = some (.int .u8)) (hd : P.underlying dst = some .string) (h : Rd w v (bvs bs)) :
    (convert src dst v).run P w = .ok (str bs) w := by
  obtain ⟨A, c, rfl, hl, hr⟩ := h
  rw [run_convert_bytes_string w src dst e _ _ c hs he hd]
  by_cases hb : bs = []
  · subst hb
    rcases A with _ | ad
    · simp [Conv.bytesToString, str]; rfl
    · have hl : (loadCells ad 0).run P w = .ok (([] : List Int).map (Value.int .u8)).toArray w := by simp [loadCells, loadCellsFrom]
      rw [show (bvs []).length = 0 from rfl, run_bytesToString w ad 0 c [] hl]
      simp [str]; rfl
  · obtain ⟨ad, rfl, hc⟩ := hr (by simpa [bvs] using hb)
    have hl : (loadCells ad (bvs bs).length).run P w = .ok ((bs.map fun b => (b.toNat : Int)).map (Value.int .u8)).toArray w := by
      have e : bvs bs = (bs.map fun b => (b.toNat : Int)).map (Value.int .u8) := by simp [bvs, bv]
      have h2 := run_loadCells_list (P := P) w ad (bvs bs) hc
      rw [h2, e]
    rw [run_bytesToString w ad _ c _ hl, foldl_push_bytes]
    simp only [str, List.map_map, Result.ok.injEq, Value.string.injEq, and_true]
    have e2 : (fun n : Int => UInt8.ofNat n.toNat) ∘ (fun b : UInt8 => (b.toNat : Int)) = id := by funext b; simp
    rw [e2, List.map_id]
    simp [ByteArray.empty, ByteArray.emptyWithCapacity]
    rfl

/-- A literal's row, with the run-time's mark behind it. -/
theorem rd_mark (w : World) (us : List Value) (t n : Nat) (fr : Nat × Nat) (hn : n = us.length) : Rd (w.alloc (.cells us.toArray t fr)) (.slice (some ⟨w.heap.size, 0, none⟩) n n) us := by
  subst hn
  refine ⟨_, _, rfl, Nat.le_refl _, fun _ => ⟨_, rfl, fun j u hu => ?_⟩⟩
  rw [addr_add_at, cell_of_row _ _ _ us.toArray t fr (heap_alloc_new w _), Nat.zero_add]
  simpa using hu
theorem Wr.below {w w' : World} {g : Nat} {v : Value} {xs : List UInt8} (h : Wr w g v xs) (hb : Below w.heap.size w w') : Wr w' g v xs :=
  ⟨h.blk.chg (Chg.of_below hb) (S := fun _ => False) id, h.own.kept (row := none) ⟨hb.os, hb.tape, hb.output, hb.size, fun k hk _ => hb.block k hk⟩ (by cases v.ownBlock <;> simp)⟩
theorem Wr.cast {w : World} {g : Nat} {v : Value} {xs ys : List UInt8} (h : Wr w g v xs) (e : xs = ys) : Wr w g v ys := e ▸ h
theorem Own8.cast {w : World} {v : Value} {xs ys : List UInt8} (h : Own8 w v xs) (e : xs = ys) : Own8 w v ys := e ▸ h
theorem Rdr.cast {w : World} {g : Nat} {b : Value} {rs rs' : List UInt8} {err err' : Int} (h : Rdr w g b rs err) (e : rs = rs') (e' : err = err') : Rdr w g b rs' err' := e ▸ e' ▸ h
/-- What is new, or was new, stays out of what was there. -/
theorem Wset.ge {g B : Nat} {v : Value} (hg : B ≤ g) (hv : ∀ k, v.ownBlock = some k → B ≤ k) : ∀ k, Wset g v k → B ≤ k := fun k hk => by
  rcases hk with rfl | hk
  · exact hg
  · exact hv k hk
/-- A method of a Writer that is the call's own. -/
theorem WrOut.own {w0 w w' : World} {g : Nat} {v : Value} {xs : List UInt8} {e : Ending} (hB : Below w0.heap.size w0 w) (hg : w0.heap.size ≤ g) (hv : ∀ k, v.ownBlock = some k → w0.heap.size ≤ k) (h : WrOut w g v xs e w') :
    e = .returned (.tuple #[]) ∧ ∃ v', Wr w' g v' xs ∧ Below w0.heap.size w0 w' ∧ ∀ k, v'.ownBlock = some k → w0.heap.size ≤ k := by
  obtain ⟨rfl, v', h1, h2, h3⟩ := h
  refine ⟨rfl, v', h1, hB.trans (h2.below hB.size (Wset.ge hg hv)), fun k hk => ?_⟩
  rcases h3 with e | ⟨j, e, hj⟩
  · exact hv k (by rw [← e]; exact hk)
  · rw [e] at hk; injection hk with hk; rw [← hk]; exact Nat.le_trans hB.size hj

theorem NumOut.cast {w w' : World} {g : Nat} {b : Value} {o : List UInt8 × List UInt8 × Int} {ys rs : List UInt8} {err : Int} {e : Ending} {n : Nat} (h : NumOut w g b o e w') (ho : o = (ys, rs, err)) (hn : numP ys = n) :
    ∃ b', e = .returned (.int .i64 (n : Int)) ∧ Rdr w' g b' rs err ∧ Chg (fun k => k = g) w w' ∧ b'.ownBlock = b.ownBlock := by
  subst ho hn
  exact h
theorem FixOut.cast {w w' : World} {g : Nat} {b : Value} {o : List UInt8 × List UInt8 × Int} {ys rs : List UInt8} {err : Int} {e : Ending} (h : FixOut w g b o e w') (ho : o = (ys, rs, err)) :
    ∃ out b', e = .returned out ∧ Own8 w' out ys ∧ Rdr w' g b' rs err ∧ Chg (fun k => k = g) w w' ∧ (∀ k, out.ownBlock = some k → w.heap.size ≤ k) ∧ b'.ownBlock = b.ownBlock := by
  subst ho
  exact h
set_option maxHeartbeats 1000000 in
theorem known_calls (w : World) : Calls Try.prog 12 #[] w fun e w' => e = .returned (.bool true) ∧ Below w.heap.size w w' := by
  go_enter Try.func12, Try.ntmps12
  go_wp2_with fail
  refine (NewWriter_calls w).mono ?_
  rintro e w1 ⟨g, rfl, hg, h1, hB1⟩
  go_wp2_with fail
  refine (U8_calls w1 g _ _ 255 h1 (by simp)).mono ?_
  intro e w2 k
  obtain ⟨rfl, v2, h2, hB2, hv2⟩ := k.own hB1 hg (fun k hk => by simp [Value.ownBlock] at hk)
  have h2 := h2.cast (show _ = [255] by decide)
  clear k h1 hB1
  go_wp2_with fail
  refine (U16_calls w2 g _ _ 4660 h2 (by simp)).mono ?_
  intro e w3 k
  obtain ⟨rfl, v3, h3, hB3, hv3⟩ := k.own hB2 hg hv2
  have h3 := h3.cast (show _ = [255, 52, 18] by decide)
  clear k h2 hB2 hv2
  go_wp2_with fail
  refine (U32_calls w3 g _ _ (-1) h3 (by simp)).mono ?_
  intro e w4 k
  obtain ⟨rfl, v4, h4, hB4, hv4⟩ := k.own hB3 hg hv3
  have h4 := h4.cast (show _ = [255, 52, 18, 255, 255, 255, 255] by decide)
  clear k h3 hB3 hv3
  have kc := fun (w : World) (C : Array Value) (n c : Nat) => Lib.run_convert_bytes_const (P := Try.prog) w 28 5 C n c Try.underlying28 Try.underlying5
  go_wp2_with fail
  have h4' := h4.below ((Below.refl _ w4).alloc (Nat.le_refl _) (.cells (bvs [97]).toArray 5 (1, 2)))
  refine (Fixed_calls _ g v4 _ _ [97] 2 2 h4' (rd_mark w4 (bvs [97]) 5 1 (1, 2) rfl) (by simp) (by simp) (by decide)).mono ?_
  intro e w5 k
  obtain ⟨rfl, v5, h5, hB5, hv5⟩ := k.own (hB4.alloc hB4.size _) hg hv4
  have h5 := h5.cast (show _ = [255, 52, 18, 255, 255, 255, 255, 97, 0] by decide)
  clear k h4 h4' hB4 hv4
  go_wp2_with fail
  have h5' := h5.below ((Below.refl _ w5).alloc (Nat.le_refl _) (.cells (bvs [120, 121, 122]).toArray 5 (3, 4)))
  refine (Bytes_calls _ g v5 _ _ [120, 121, 122] h5' (rd_mark w5 (bvs [120, 121, 122]) 5 3 (3, 4) rfl) ?_ (by simp) (by simp)).mono ?_
  · intro _ k hk hw
    have hk : w5.heap.size = k := by simpa [Value.ownBlock] using hk
    subst hk
    rcases hw with e | e
    · have := h5.blk.lt; omega
    · have := h5.own.lt _ e; omega
  intro e w6 k
  obtain ⟨rfl, v6, h6, hB6, hv6⟩ := k.own (hB5.alloc hB5.size _) hg hv5
  have h6 := h6.cast (show _ = [255, 52, 18, 255, 255, 255, 255, 97, 0, 3, 0, 0, 0, 120, 121, 122] by decide)
  clear k h5 h5' hB5 hv5
  go_wp2_with fail
  refine (Done_calls w6 g v6 _ h6 (by simp)).mono ?_
  rintro e w7 ⟨r, rfl, h7, hB7, hr7⟩
  have hB7 : Below w.heap.size w w7 := hB6.trans (hB7.mono hB6.size)
  have hrlt := h7.lt
  obtain ⟨A, cr, rfl⟩ := h7.shape
  have hr : Rd w7 (.slice A 16 cr) (bvs [255, 52, 18, 255, 255, 255, 255, 97, 0, 3, 0, 0, 0, 120, 121, 122]) := Rd.of_own h7
  clear h6 hB6 hv6 h7
  go_wp2_with fail
  refine (NewReader_calls w7 _ _ hr (by simp)).mono ?_
  rintro e w8 ⟨g2, b8, rfl, hg2, h8, hB8, hb8⟩
  have hr := hr.below hB8
  have hB8 : Below w.heap.size w w8 := hB7.trans (hB8.mono hB7.size)
  have hg2' : w.heap.size ≤ g2 := Nat.le_trans hB7.size hg2
  have hrn : ∀ k, (Value.slice A 16 cr).ownBlock = some k → ¬ k = g2 := fun k hk e => by have := hrlt k hk; omega
  have hcr : 16 ≤ cr := by
    obtain ⟨_, _, e, hl, _⟩ := hr
    injection e with _ _ e
    subst e
    exact hl
  have h3c : 3 ≤ cr := by omega
  clear hg2 hb8 hr7 hB7 hrlt hcr
  go_wp2_with fail
  refine (RU8_calls w8 g2 b8 _ 0 h8 (by simp)).mono ?_
  intro e w9 k
  obtain ⟨b9, rfl, h9, hc9, _⟩ := k.cast (show _ = ([255], [52, 18, 255, 255, 255, 255, 97, 0, 3, 0, 0, 0, 120, 121, 122], 0) by decide) (n := 255) (by decide)
  clear k h8
  go_wp2_with fail
  refine (RU16_calls w9 g2 b9 _ 0 h9 (by simp)).mono ?_
  intro e w10 k
  obtain ⟨b10, rfl, h10, hc10, _⟩ := k.cast (show _ = ([52, 18], [255, 255, 255, 255, 97, 0, 3, 0, 0, 0, 120, 121, 122], 0) by decide) (n := 4660) (by decide)
  clear k h9
  go_wp2_with fail
  refine (RU32_calls w10 g2 b10 _ 0 h10 (by simp)).mono ?_
  intro e w11 k
  obtain ⟨b11, rfl, h11, hc11, _⟩ := k.cast (show _ = ([255, 255, 255, 255], [97, 0, 3, 0, 0, 0, 120, 121, 122], 0) by decide) (n := 4294967295) (by decide)
  clear k h10
  go_wp2_with fail
  refine (RFixed_calls w11 g2 b11 _ 0 2 h11 (by simp)).mono ?_
  intro e w12 k
  obtain ⟨r12, b12, rfl, k12, h12, hc12, hr12, _⟩ := k.cast (show _ = ([97, 0], [3, 0, 0, 0, 120, 121, 122], 0) by decide)
  have s12 : (convert 28 9 r12).run Try.prog w12 = .ok (.string ⟨#[97, 0]⟩) w12 := run_str w12 _ _ 5 r12 [97, 0] Try.underlying28 Try.underlying5 Try.underlying9 (Rd.of_own k12)
  clear k h11
  go_wp2_with fail
  refine (RBytes_calls w12 g2 b12 _ 0 3 h12 (by simp)).mono ?_
  intro e w13 k
  obtain ⟨r13, b13, rfl, k13, h13, hc13, hr13, _⟩ := k.cast (show _ = ([120, 121, 122], [], 0) by decide)
  have s13 : (convert 28 9 r13).run Try.prog w13 = .ok (.string ⟨#[120, 121, 122]⟩) w13 := run_str w13 _ _ 5 r13 [120, 121, 122] Try.underlying28 Try.underlying5 Try.underlying9 (Rd.of_own k13)
  clear k h12 s12
  go_wp2_with fail
  refine (REnd_calls w13 g2 b13 _ 0 h13).mono ?_
  rintro e w14 ⟨rfl, rfl⟩
  clear s13
  rw [show endP [] 0 = 0 by decide]
  have hC : Chg (fun k => k = g2) w8 w13 := (((hc9.trans hc10).trans hc11).trans hc12).trans hc13
  have hr := hr.chg hC hrn
  have hB := hB8.trans (hC.below hB8.size (fun k hk => by rw [hk]; exact hg2'))
  have hr3 := rd_takec hr (n := 3) (by simp)
  have s14 : (convert 28 9 (.slice A 3 cr)).run Try.prog w13 = .ok (.string ⟨#[255, 52, 18]⟩) w13 := run_str w13 _ _ 5 _ [255, 52, 18] Try.underlying28 Try.underlying5 Try.underlying9 hr3
  clear hr hr3 hC hc9 hc10 hc11 hc12 hc13 hr12 hr13 k12 k13 h13 hB8
  go_wp2_with fail
  refine (Sum_calls _ _ [49, 50, 51, 52, 53, 54, 55, 56, 57] (rd_mark w13 (bvs [49, 50, 51, 52, 53, 54, 55, 56, 57]) 5 9 (9, 10) rfl) (by simp)).mono ?_
  rintro e w15 ⟨rfl, hB15⟩
  clear s14
  rw [show crcP [49, 50, 51, 52, 53, 54, 55, 56, 57] = 3421780262 by decide]
  go_wp2
  go_ret
  exact ⟨rfl, (hB.alloc hB.size _).trans (hB15.mono (Nat.le_trans hB.size (by simp)))⟩
end Go.Proofs.Ytdlfaoggjimbpaa
