/- The names of a directory, sorted. -/
import Derived.Test.YtoloogpglnonaaaSrt
namespace Go.Proofs.Ytoloogpglnonaaa
open Go.RowKit Go.Sort
def strs (l : List (List UInt8)) : List Value := l.map encStr
theorem strs_len (l : List (List UInt8)) : (strs l).length = l.length := by simp [strs]
theorem strs_one (l : List (List UInt8)) : ∀ u ∈ strs l, u.oneCell' = true := by
  intro u hu
  simp [strs] at hu
  obtain ⟨a, _, rfl⟩ := hu
  rfl
def OwnS (w : World) (v : Value) (l : List (List UInt8)) : Prop := w.ownsRow 0 9 1 v l.length (strs l)
def sortS (l : List (List UInt8)) : List (List UInt8) := l.mergeSort fun x y => decide (x ≤ y)
theorem sortS_len (l : List (List UInt8)) : (sortS l).length = l.length := List.length_mergeSort l
theorem SortS_calls (w0 w : World) (g c : Nat) (l : List (List UInt8)) (h : OwnS w (.slice (some ⟨g, 0, none⟩) l.length c) l) (hl : l.length < 4611686018427387904) (hB : Below w0.heap.size w0 w) (hg : w0.heap.size ≤ g) :
    Calls Try.prog 30 #[.slice (some ⟨g, 0, none⟩) l.length c] w fun e w' => e = .returned (.tuple #[]) ∧ Below w0.heap.size w0 w' ∧ Rd w' (.slice (some ⟨g, 0, none⟩) l.length c) (strs (sortS l)) := by
  have hc := World.ownsRow.cells h rfl
  have hcap : l.length ≤ c ∧ g < w.heap.size := by
    rcases h.2 with ⟨h1, _⟩ | ⟨g', cap', cur, h1, _, h2, h3, _⟩
    · cases h1
    · injection h1 with h4 h5 h6
      injection h4 with h7
      injection h7 with h8
      subst h6 h8
      refine ⟨h3, ?_⟩
      rcases Nat.lt_or_ge g w.heap.size with hlt | hge
      · exact hlt
      · rw [Array.getElem?_eq_none hge] at h2
        cases h2
  have hH : Holds encStr w g 0 l.toArray := by
    intro j hj
    have hj' : j < l.length := by simpa using hj
    refine ⟨?_, World.ownsRow.frozenAt h _⟩
    have := hc j (encStr l[j]) (by simp [strs, List.getElem?_eq_getElem hj'])
    rw [addr_add_at] at this
    rw [this, getElem!_pos _ j (by simpa using hj')]
    simp
  refine (show Calls Try.prog 30 _ w _ from AnyM.slices_Sort_string srt g 0 c l w hH hcap.2 hl).mono ?_
  rintro e w' ⟨rfl, n, os, rfl⟩
  have hs : (sortS l).toArray.size = l.toArray.size := by simp [sortS_len]
  have hH2 := holds_putRow encStr (Sort.ahead w n) g 0 l.toArray (sortS l).toArray (holds_ahead _ _ _ _ _ _ hH) hs
  have hsz : (putRow encStr (Sort.ahead w n) g 0 (sortS l).toArray).heap.size = w.heap.size := by simp [putRow, mapBlock, Sort.ahead]
  refine ⟨rfl, ⟨hB.os, hB.tape, hB.output, ?_, ?_⟩, ⟨_, _, by rw [strs_len, sortS_len], by rw [strs_len, sortS_len]; exact hcap.1, fun _ => ⟨_, rfl, fun j u hu => ?_⟩⟩⟩
  · show _ ≤ (grow _ _).heap.size
    rw [size_grow]
    have := hB.size
    show _ ≤ (putRow encStr (Sort.ahead w n) g 0 (sortS l).toArray).heap.size + _
    omega
  · intro k hk
    have hk2 : k < w.heap.size := Nat.lt_of_lt_of_le hk hB.size
    rw [← hB.block k hk]
    refine (heap_grow_old _ os (show k < (putRow encStr (Sort.ahead w n) g 0 (sortS l).toArray).heap.size by omega)).trans ?_
    show (w.heap.modify g _)[k]? = _
    rw [Array.getElem?_modify, if_neg (by omega)]
  · have hj : j < (sortS l).length := by
      have := (List.getElem?_eq_some_iff.1 hu).1
      simpa [strs] using this
    rw [addr_add_at]
    refine (cell?_grow _ os _ (show g < (putRow encStr (Sort.ahead w n) g 0 (sortS l).toArray).heap.size by omega)).trans ?_
    refine (hH2 j (by simpa using hj)).1.trans ?_
    rw [← hu, getElem!_pos _ j (by simpa using hj)]
    simp [strs, List.getElem?_eq_getElem hj]
def rawN (es : List Ent) : List (List UInt8) := (es.map Ent.name).filter fun n => !(n == [])
def namesP (es : List Ent) : List (List UInt8) := sortS (rawN es)
theorem rawN_succ (es : List Ent) (k : Nat) (h : k < es.length) : rawN (es.take (k + 1)) = rawN (es.take k) ++ (if es[k].name = [] then [] else [es[k].name]) := by
  unfold rawN
  rw [List.take_succ_eq_append_getElem h, List.map_append, List.filter_append]
  congr 1
  by_cases hn : es[k].name = [] <;> simp [hn]
theorem rawN_le (es : List Ent) : (rawN es).length ≤ es.length := by
  unfold rawN
  refine Nat.le_trans (List.length_filter_le _ _) ?_
  simp
def NamesOut (w : World) (es : List Ent) (e : Ending) (w' : World) : Prop := ∃ A c, e = .returned (.slice A (rawN es).length c) ∧ Below w.heap.size w w' ∧ Rd w' (.slice A (rawN es).length c) (strs (namesP es))
theorem Try.info_str : (Try.prog.info? 9).map (fun i => (i.zero, i.size, i.bytes)) = some (some (.string ⟨#[]⟩), 1, 16) := by kernel_rfl
set_option maxRecDepth 10000 in
set_option maxHeartbeats 4000000 in
theorem Names_calls (w : World) (v : Value) (es : List Ent) (hv : RdE w v es) (hl : es.length ≤ 1000000) :
    Calls Try.prog 12 #[v] w (NamesOut w es) := by
  obtain ⟨i0, hi, hz0, hz1, hz2⟩ := info_parts Try.info_str
  have hv0 := Lib.hid hv
  obtain ⟨A, c, rfl⟩ := hv.shape
  clear hv
  go_enter Try.func12, Try.ntmps12
  go_wp2
  go_loopw [3, 8] (fun o i wr => ∃ (k n : Nat) (A1 : Option Addr) (c1 : Nat), k ≤ es.length ∧ i = .int .i64 k ∧ o = .slice A1 n c1 ∧ Hid (n = (rawN (es.take k)).length) ∧ n ≤ 1000000 ∧ Hid (OwnS wr (.slice A1 n c1) (rawN (es.take k))) ∧ Hid (Below w.heap.size w wr) ∧ Hid (∀ j, (Value.slice A1 n c1).ownBlock = some j → w.heap.size ≤ j)) (fun _ i _ => es.length - (intOf i).toNat)
  case atStart => exact ⟨0, 0, none, 0, Nat.zero_le _, rfl, rfl, rfl, Nat.zero_le _, World.ownsRow_nil _ _ _ _, Below.refl _ _, fun j hj => by simp [Value.ownBlock] at hj⟩
  case round =>
    obtain ⟨k, n, A1, c1, hk, rfl, rfl, hn, hn2, hO, hB, hf⟩ := hrel
    by_cases hlt : k < es.length
    · obtain ⟨ad, rfl, d0, d1⟩ := (hv0.out.below hB.out).at_ hlt
      have hsu := Lib.hid (rawN_succ es k hlt)
      have hle : Hid ((rawN (es.take (k + 1))).length ≤ 1000000) := by
        have := rawN_le (es.take (k + 1))
        rw [List.length_take] at this
        show _ ≤ _
        omega
      generalize es[k] = ek at *
      by_cases he : ek.name = []
      · have hsu2 : Hid (rawN (es.take (k + 1)) = rawN (es.take k)) := by
          have h := hsu.out
          rw [if_pos he, List.append_nil] at h
          exact h
        rw [he] at d0
        have hO2 := Lib.hid (World.ownsRow.alloc hO.out (.cells #[.string ⟨#[]⟩, .int .i64 ek.ino] 43))
        have hB2 := Lib.hid (hB.out.alloc hB.out.size (.cells #[.string ⟨#[]⟩, .int .i64 ek.ino] 43))
        clear hsu hle
        go_wp2
        go_roundw
        case rel => exact ⟨k + 1, n, A1, c1, by omega, rfl, rfl, by rw [hsu2.out]; exact hn, hn2, by rw [hsu2.out]; exact hO2, hB2, hf⟩
        case measure => simp [intOf]; omega
      · have hsu2 : Hid (rawN (es.take (k + 1)) = rawN (es.take k) ++ [ek.name]) := by
          have h := hsu.out
          rw [if_neg he] at h
          exact h
        have hne : (ek.name == []) = false := by rw [beq_eq_false_iff_ne]; exact he
        have hle2 : Hid (n + 1 ≤ 1000000) := by
          have h := hle.out
          rw [hsu2.out, List.length_append, ← hn.out] at h
          exact h
        have hrd := rd_new (wr.alloc (.cells #[.string ⟨ek.name.toArray⟩, .int .i64 ek.ino] 43)) [encStr ek.name] 9 1 rfl
        rw [show (wr.alloc (.cells #[.string ⟨ek.name.toArray⟩, .int .i64 ek.ino] 43)).heap.size = wr.heap.size + 1 by simp] at hrd
        have hO2 : wr.ownsRow 0 9 1 (.slice A1 n c1) n (strs (rawN (es.take k))) := by
          have h := hO.out
          unfold OwnS at h
          rw [← hn.out] at h
          exact h
        clear hsu hle
        go_wp2_with (at_builtin; refine stop_app rfl ?_)
        refine Stop.mk (wpList_app _ rfl rfl (us := [encStr ek.name]) (base := 0) Try.underlying33 hi hz0 hz1 hz2 rfl (World.ownsRow.alloc (World.ownsRow.alloc hO2 _) _) rfl hrd rfl (strs_one [ek.name]) ?_ ?_ (Nat.zero_le _) ?_)
        · have := hle2.out; unfold maxLen; simp; omega
        · have := hle2.out; simp; omega
        intro v6 w6 hown hg hat
        obtain ⟨A6, c6, rfl⟩ := own_shape hown
        have hB6 : Hid (Below w.heap.size w w6) := ((hB.out.alloc hB.out.size _).alloc (by have := hB.out.size; simp; omega) _).grown hg (by have := hB.out.size; simp; omega) (fun j hj => hf.out j hj)
        have hf6 : Hid (∀ j, (Value.slice A6 (n + 1) c6).ownBlock = some j → w.heap.size ≤ j) := fun j hj => by
          rcases hat with e | e
          · exact hf.out j (e.symm.trans hj)
          · have h1 := e.symm.trans hj
            injection h1 with h1
            have h2 := hB.out.size
            rw [← h1]
            simp
            omega
        have hn6 : Hid (n + 1 = (rawN (es.take (k + 1))).length) := by
          show _ = _
          rw [hsu2.out, List.length_append, ← hn.out]
          rfl
        have hO6 : Hid (OwnS w6 (.slice A6 (n + 1) c6) (rawN (es.take (k + 1)))) := by
          show OwnS _ _ _
          unfold OwnS
          rw [← hn6.out, hsu2.out]
          unfold strs
          rw [List.map_append]
          exact hown
        have hle3 := hle2.out
        clear hown hg hat hrd
        go_wp2
        go_roundw
        case rel => exact ⟨k + 1, n + 1, A6, c6, by omega, rfl, rfl, hn6, hle3, hO6, hB6, hf6⟩
        case measure => simp [intOf]; omega
    · obtain rfl : k = es.length := by omega
      rw [List.take_length] at hO hn
      have hnn := hn.out
      subst hnn
      cases A1 with
      | none =>
        have h0 : rawN es = [] := by
          rcases hO.out.2 with ⟨_, h⟩ | ⟨_, _, _, h, _⟩
          · exact List.eq_nil_of_length_eq_zero h
          · cases h
        rw [h0]
        go_wp2_with fail
        refine (show Calls Try.prog 30 _ wr _ from AnyM.slices_Sort_string_none srt none c1 wr).mono ?_
        rintro e w5 ⟨rfl, rfl⟩
        go_wp2
        go_ret
        exact ⟨none, c1, by rw [h0]; rfl, hB.out, by unfold namesP; rw [h0]; exact ⟨none, c1, by simp [sortS, strs], by simp [sortS, strs], fun h => absurd (by simp [sortS, strs]) h⟩⟩
      | some ad =>
        obtain ⟨g, rfl⟩ : ∃ g, ad = ⟨g, 0, none⟩ := by
          rcases hO.out.2 with ⟨h, _⟩ | ⟨g, _, _, h, _⟩
          · cases h
          · injection h with h1
            injection h1 with h2
            exact ⟨g, h2⟩
        have hS := Lib.hid (SortS_calls w wr g c1 (rawN es) hO.out (by omega) hB.out (hf.out g rfl))
        go_wp2_with fail
        refine hS.out.mono ?_
        rintro e w5 ⟨rfl, hB5, hR5⟩
        go_wp2
        go_ret
        exact ⟨_, _, rfl, hB5, hR5⟩
end Go.Proofs.Ytoloogpglnonaaa
