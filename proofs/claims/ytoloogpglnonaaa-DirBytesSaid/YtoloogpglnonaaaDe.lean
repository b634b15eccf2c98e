/- An entry's bytes. -/
import Derived.Test.YtoloogpglnonaaaDq
import Derived.Laws.IdiomStrings
namespace Go.Proofs.Ytoloogpglnonaaa
open Go.RowKit
/-- '[]byte(s)': a new row that reads as the string's bytes. -/
theorem run_conv_bytes (w : World) (l : List UInt8) : ∃ c w', (convert 9 30 (.string ⟨l.toArray⟩)).run Try.prog w = .ok (.slice (some ⟨w.heap.size, 0, none⟩) l.length c) w' ∧ Rd w' (.slice (some ⟨w.heap.size, 0, none⟩) l.length c) (bvs l) ∧ Below w.heap.size w w' ∧ w'.heap.size = w.heap.size + 1 := by
  have h := run_bytes_of_string (P := Try.prog) w 9 30 5 ⟨l.toArray⟩ Try.underlying9 Try.underlying30 Try.underlying5
  refine ⟨_, _, h, ⟨_, _, by rw [bvs_length], ?_, ?_⟩, (Below.refl _ _).drew.alloc (Nat.le_refl _) _, by simp⟩
  · rw [bvs_length]
    exact grownCap_ge w l.length 0 _
  · intro _
    refine ⟨_, rfl, fun j u hu => ?_⟩
    rw [addr_add_at, Nat.zero_add]
    have hj : j < (bvs l).length := (List.getElem?_eq_some_iff.1 hu).1
    rw [bvs_length] at hj
    refine (World.cell?_alloc_mark w.drew _ _ _ j).trans ?_
    rw [bytesRow_at _ _ _ (by simpa using hj)]
    unfold bvs at hu
    simp [List.getElem?_eq_getElem hj] at hu
    rw [← hu]
    rfl
def encEH (e : Ent) : List UInt8 := [] ++ [b8 e.name.length] ++ [b8 0] ++ le16 e.ino
def encEB (e : Ent) : List UInt8 := encEH e ++ (e.name.take 56 ++ List.replicate (56 - e.name.length) 0)
def encE (e : Ent) : List UInt8 := sealP (encEB e)
theorem encEH_len (e : Ent) : (encEH e).length = 4 := rfl
theorem encEB_len (e : Ent) : (encEB e).length = 60 := by
  unfold encEB
  rw [List.length_append, encEH_len, List.length_append, List.length_take, List.length_replicate]
  omega
theorem encE_len (e : Ent) : (encE e).length = 64 := by
  unfold encE
  rw [sealP_len, encEB_len]
def Ent.cells (e : Ent) : Array Value := #[.string ⟨e.name.toArray⟩, .int .i64 e.ino]
set_option maxRecDepth 10000 in
set_option maxHeartbeats 4000000 in
theorem EncodeE_calls (w : World) (e : Ent) (hn : e.name.length ≤ 1000000) : Calls Try.prog 17 #[.agg e.cells] w (ByOut w (encE e)) := by
  have hBl := Lib.hid (encEB_len e)
  have hHl := Lib.hid (encEH_len e)
  have hbx : Blk (w.alloc (.cells e.cells 43)) w.heap.size 43 e.cells := Blk.new _ _ _
  have hwb : Below w.heap.size w (w.alloc (.cells e.cells 43)) := (Below.refl _ _).alloc (Nat.le_refl _) _
  obtain ⟨wb, hwq⟩ : ∃ wb, wb = w.alloc (.cells e.cells 43) := ⟨_, rfl⟩
  rw [← hwq] at hbx hwb
  have hbx := Lib.hid hbx
  have HC : Hid (∀ W, Below wb.heap.size wb W → ∀ j, W.cell? ⟨w.heap.size, j, none⟩ = e.cells[j]?) := by
    intro W hW j
    exact (hbx.out.chg (Chg.of_below hW) (S := fun _ => False) id).cell j
  unfold Ent.cells at HC hwq
  unfold Ent.cells
  go_enter Try.func17, Try.ntmps17
  go_wp2_with fail
  rw [← hwq]
  clear hwq
  have hwb := Lib.hid hwb
  have hgn : Hid (w.heap.size < wb.heap.size) := hbx.out.lt
  generalize hgq0 : w.heap.size = gn at *
  have hgq := Lib.hid hgq0
  clear hgq0
  refine (NewWriter_calls wb).mono ?_
  rintro r w1 ⟨g, rfl, hg, hW, hB⟩
  have hv : ∀ j, (Value.slice none 0 0).ownBlock = some j → wb.heap.size ≤ j := fun j hj => by simp [Value.ownBlock] at hj
  have c0 := HC.out w1 hB 0
  go_wp2_with fail
  refine (U8_calls w1 g (.slice none 0 0) _ _ hW (by simp)).mono ?_
  intro r w2 kk
  obtain ⟨rfl, v2, hW, hB, hv⟩ := kk.own hB hg hv
  clear kk
  go_wp2_with fail
  refine (U8_calls w2 g v2 _ (0) hW (by simp)).mono ?_
  intro r w3 kk
  obtain ⟨rfl, v3, hW, hB, hv⟩ := kk.own hB hg hv
  clear kk
  have c1 := HC.out w3 hB 1
  go_wp2_with fail
  refine (U16_calls w3 g v3 _ (e.ino) hW (by simp)).mono ?_
  intro r w4 kk
  obtain ⟨rfl, v4, hW, hB, hv⟩ := kk.own hB hg hv
  clear kk
  have hW : Wr w4 g v4 (encEH e) := hW
  have c2 := HC.out w4 hB 0
  obtain ⟨c, w5, hcv, hrd, hB5, hs5⟩ := run_conv_bytes w4 e.name
  have hB' := hB.trans (hB5.mono hB.size)
  have hW5 := hW.below hB5
  have hrd := Lib.hid hrd
  clear hB5 hs5
  go_wp2_with fail
  refine (Fixed_calls w5 g v4 _ _ e.name 56 56 hW5 hrd.out (by rw [hHl.out]; decide) (by omega) (by decide)).mono ?_
  intro r w6 kk
  obtain ⟨rfl, v6, hW6, hB6, hv6⟩ := kk.own hB' hg hv
  have hW6 : Wr w6 g v6 (encEB e) := hW6
  clear kk
  go_wp2_with fail
  refine (Done_calls w6 g v6 _ hW6 (by have := hBl.out; omega)).mono ?_
  rintro r w11 ⟨r11, rfl, ho11, hB11, hf11⟩
  have hB11' := hB6.trans (hB11.mono hB6.size)
  go_wp2_with fail
  refine (Seal_calls w11 _ _ (Rd.of_own ho11) (by have := hBl.out; omega)).mono ?_
  rintro r w12 ⟨r12, rfl, ho12, hB12, hf12⟩
  have hB12' := hB11'.trans (hB12.mono hB11'.size)
  have hsz := hB11'.size
  go_wp2
  go_ret
  refine ⟨r12, rfl, ho12, by rw [hgq.out]; exact hwb.out.trans (hB12'.mono (Nat.le_of_lt hgn.out)), fun j hj => ?_⟩
  rw [hgq.out]
  have := hf12 j hj
  have := hgn.out
  omega
end Go.Proofs.Ytoloogpglnonaaa
