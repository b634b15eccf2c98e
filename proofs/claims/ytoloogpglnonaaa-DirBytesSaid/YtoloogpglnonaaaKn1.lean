import Derived.Test.YtoloogpglnonaaaSeal
import Derived.Lib.SlBytesConst
namespace Go.Proofs.Ytoloogpglnonaaa
open Go.RowKit

def str (bs : List UInt8) : Value := .string ⟨bs.toArray⟩
theorem run_str {P : Program} (w : World) (src dst e : TypeId) (v : Value) (bs : List UInt8) (hs : P.underlying src = some (.slice e)) (he : P.underlying e = some (.int .u8)) (hd : P.underlying dst = some .string) (h : Rd w v (bvs bs)) :
    (convert src dst v).run P w = .ok (str bs) w := by
  obtain ⟨A, c, rfl, hl, hr⟩ := h
  rw [run_convert_bytes_string w src dst e _ _ c hs he hd]
  by_cases hb : bs = []
  · subst hb
    rcases A with _ | ad
    · simp [Conv.bytesToString, str]; rfl
    · have hl : (loadCells ad 0).run P w = .ok (([] : List Int).map (Value.int .u8)).toArray w := by simp [loadCells, loadCellsFrom]
      rw [show (bvs []).length = 0 from rfl, run_bytesToString w ad 0 c [] hl]
      simp [str]; rfl
  · obtain ⟨ad, rfl, hc⟩ := hr (by simpa [bvs] using hb)
    have hl : (loadCells ad (bvs bs).length).run P w = .ok ((bs.map fun b => (b.toNat : Int)).map (Value.int .u8)).toArray w := by
      have e : bvs bs = (bs.map fun b => (b.toNat : Int)).map (Value.int .u8) := by simp [bvs, bv]
      have h2 := run_loadCells_list (P := P) w ad (bvs bs) hc
      rw [h2, e]
    rw [run_bytesToString w ad _ c _ hl, foldl_push_bytes]
    simp only [str, List.map_map, Result.ok.injEq, Value.string.injEq, and_true]
    have e2 : (fun n : Int => UInt8.ofNat n.toNat) ∘ (fun b : UInt8 => (b.toNat : Int)) = id := by funext b; simp
    rw [e2, List.map_id]
    simp [ByteArray.empty, ByteArray.emptyWithCapacity]
    rfl

/-- A literal's row, with the run-time's mark behind it. -/
theorem rd_mark (w : World) (us : List Value) (t n : Nat) (fr : Nat × Nat) (hn : n = us.length) : Rd (w.alloc (.cells us.toArray t fr)) (.slice (some ⟨w.heap.size, 0, none⟩) n n) us := by
  subst hn
  refine ⟨_, _, rfl, Nat.le_refl _, fun _ => ⟨_, rfl, fun j u hu => ?_⟩⟩
  rw [addr_add_at, cell_of_row _ _ _ us.toArray t fr (heap_alloc_new w _), Nat.zero_add]
  simpa using hu
theorem Wr.below {w w' : World} {g : Nat} {v : Value} {xs : List UInt8} (h : Wr w g v xs) (hb : Below w.heap.size w w') : Wr w' g v xs :=
  ⟨h.blk.chg (Chg.of_below hb) (S := fun _ => False) id, h.own.kept (row := none) ⟨hb.os, hb.tape, hb.output, hb.size, fun k hk _ => hb.block k hk⟩ (by cases v.ownBlock <;> simp)⟩
theorem Wr.cast {w : World} {g : Nat} {v : Value} {xs ys : List UInt8} (h : Wr w g v xs) (e : xs = ys) : Wr w g v ys := e ▸ h
theorem Own8.cast {w : World} {v : Value} {xs ys : List UInt8} (h : Own8 w v xs) (e : xs = ys) : Own8 w v ys := e ▸ h
theorem Rdr.cast {w : World} {g : Nat} {b : Value} {rs rs' : List UInt8} {err err' : Int} (h : Rdr w g b rs err) (e : rs = rs') (e' : err = err') : Rdr w g b rs' err' := e ▸ e' ▸ h
/-- What is new, or was new, stays out of what was there. -/
theorem Wset.ge {g B : Nat} {v : Value} (hg : B ≤ g) (hv : ∀ k, v.ownBlock = some k → B ≤ k) : ∀ k, Wset g v k → B ≤ k := fun k hk => by
  rcases hk with rfl | hk
  · exact hg
  · exact hv k hk
/-- A method of a Writer that is the call's own. -/
theorem WrOut.own {w0 w w' : World} {g : Nat} {v : Value} {xs : List UInt8} {e : Ending} (hB : Below w0.heap.size w0 w) (hg : w0.heap.size ≤ g) (hv : ∀ k, v.ownBlock = some k → w0.heap.size ≤ k) (h : WrOut w g v xs e w') :
    e = .returned (.tuple #[]) ∧ ∃ v', Wr w' g v' xs ∧ Below w0.heap.size w0 w' ∧ ∀ k, v'.ownBlock = some k → w0.heap.size ≤ k := by
  obtain ⟨rfl, v', h1, h2, h3⟩ := h
  refine ⟨rfl, v', h1, hB.trans (h2.below hB.size (Wset.ge hg hv)), fun k hk => ?_⟩
  rcases h3 with e | ⟨j, e, hj⟩
  · exact hv k (by rw [← e]; exact hk)
  · rw [e] at hk; injection hk with hk; rw [← hk]; exact Nat.le_trans hB.size hj

theorem NumOut.cast {w w' : World} {g : Nat} {b : Value} {o : List UInt8 × List UInt8 × Int} {ys rs : List UInt8} {err : Int} {e : Ending} {n : Nat} (h : NumOut w g b o e w') (ho : o = (ys, rs, err)) (hn : numP ys = n) :
    ∃ b', e = .returned (.int .i64 (n : Int)) ∧ Rdr w' g b' rs err ∧ Chg (fun k => k = g) w w' ∧ b'.ownBlock = b.ownBlock := by
  subst ho hn
  exact h
theorem FixOut.cast {w w' : World} {g : Nat} {b : Value} {o : List UInt8 × List UInt8 × Int} {ys rs : List UInt8} {err : Int} {e : Ending} (h : FixOut w g b o e w') (ho : o = (ys, rs, err)) :
    ∃ out b', e = .returned out ∧ Own8 w' out ys ∧ Rdr w' g b' rs err ∧ Chg (fun k => k = g) w w' ∧ (∀ k, out.ownBlock = some k → w.heap.size ≤ k) ∧ b'.ownBlock = b.ownBlock := by
  subst ho
  exact h
end Go.Proofs.Ytoloogpglnonaaa
