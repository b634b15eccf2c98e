/- The document's slots: Read; are slots the same? -/
import Derived.Test.YtoloogpglnonaaaDg
namespace Go.Proofs.Ytoloogpglnonaaa
open Go.RowKit
theorem run_slice2 {P : Program} (w : World) (t e : TypeId) (i : TypeInfo) (ht : P.underlying t = some (.slice e)) (hi : P.info? e = some i) (hs : i.size = 1) (A : Option Addr) (len cap l h : Nat) {x y : Int} (hx : x = l) (hy : y = h) (h1 : l ≤ h) (h2 : h ≤ cap) (h4 : l < cap) :
    (Instr.slice t (.slice A len cap) (some (.int .i64 x)) (some (.int .i64 y)) none).run P w = .ok (.slice (A.map (·.add l)) (h - l) (cap - l)) w := by
  subst hx hy
  have b2 : (0 : Int) ≤ (h : Int) ∧ (h : Int) ≤ (cap : Int) := by omega
  have b3 : (0 : Int) ≤ (l : Int) ∧ (l : Int) ≤ (h : Int) := by omega
  have b4 : ¬ (cap = l) := by omega
  simp [Instr.slice, Instr.sliceBounds, Instr.sliceBound, run_underlying ht, sizeOf, typeInfo, hi, hs, asIntOf, h1, h2, b4]
theorem own_ge {w : World} {t : TypeId} {size base n : Nat} {v : Value} {xs : List Value} (h : w.ownsRow base t size v n xs) : ∀ j, v.ownBlock = some j → base ≤ j := fun j hj => by
  rcases h.2 with ⟨rfl, _⟩ | ⟨g, cap, cur, rfl, hb, _⟩
  · simp [Value.ownBlock] at hj
  · have e : g = j := by simpa [Value.ownBlock] using hj
    omega
theorem rd_capw {w : World} {A : Option Addr} {m c c' : Nat} {us : List Value} (h : Rd w (.slice A m c) us) (hc : m ≤ c') : Rd w (.slice A m c') us := by
  obtain ⟨A', c0, e, hl, hr⟩ := h
  injection e with e1 e2 e3
  subst e1 e2
  exact ⟨_, _, rfl, hc, hr⟩
def OwnR (w : World) (v : Value) (es : List Ent) : Prop := w.ownsRow 0 46 2 v es.length (cellsE es)
def ReadR (w : World) (o : List Ent × Int) (e : Ending) (w' : World) : Prop := ∃ v, e = .returned (.tuple #[v, .int .i64 o.2]) ∧ OwnR w' v o.1 ∧ Below w.heap.size w w'
theorem Try.info_rent : (Try.prog.info? 46).map (fun i => (i.zero, i.size, i.bytes)) = some (some (.agg #[.string ⟨#[]⟩, .int .i64 0]), 2, 24) := by kernel_rfl
set_option maxRecDepth 100000 in
set_option maxHeartbeats 8000000 in
theorem RReadE_calls (w : World) (x : Value) (bs : List UInt8) (hx : Rd w x (bvs bs)) (hl : bs.length ≤ 100000) : Calls Try.prog 22 #[x] w (ReadR w (readD bs)) := by
  have hx0 := Lib.hid hx
  obtain ⟨A, c, rfl⟩ := hx.shape8
  have hcap : bs.length ≤ c := by
    obtain ⟨A', c', e, h, _⟩ := hx
    injection e with _ _ e3
    rw [e3, ← bvs_length bs]; exact h
  by_cases h5 : bs.length % 512 = 0
  · have hm : ((bs.length : Int) % 512 != 0) = false := by simp; omega
    obtain ⟨m, hm64⟩ : ∃ m, Hid (bs.length = 64 * m ∧ m = bs.length / 64) := ⟨bs.length / 64, by omega, rfl⟩
    obtain ⟨i0, hi, hz0, hz1, hz2⟩ := info_parts Try.info_u8
    obtain ⟨i2, hj, hy0, hy1, hy2⟩ := info_parts Try.info_rent
    have hok := Lib.hid (fun h : okK bs m => (readD_ok h5 (by rw [← hm64.out.2]; exact h)).trans (by rw [← hm64.out.2]))
    have hbad : Hid (∀ k, k < m → okK bs k → (decD (chk bs k)).2 ≠ 0 → readD bs = ([], (decD (chk bs k)).2)) := fun k hk h h2 => readD_bad h5 (by rw [← hm64.out.2]; exact hk) h h2
    have hds := Lib.hid (fun k => decs_succ bs k)
    have hdl := Lib.hid (fun k => decs_len bs k)
    obtain ⟨M, hM⟩ : ∃ M, Hid (M = bs.length) := ⟨_, rfl⟩
    rw [← hM.out] at hx0 hl hcap hm hm64 ⊢
    clear hx h5
    go_enter Try.func22, Try.ntmps22
    go_wp2
    go_loopw [4, 5, 6, 7] (fun o i _ _ wr => ∃ (k q : Nat) (A4 : Option Addr) (c4 : Nat), k ≤ m ∧ Hid (q = 64 * k) ∧ i = .int .i64 (q : Int) ∧ o = .slice A4 k c4 ∧ Hid (okK bs k) ∧ Hid (wr.ownsRow w.heap.size 46 2 (.slice A4 k c4) k (cellsE (decs bs k))) ∧ Hid (Below w.heap.size w wr)) (fun _ i _ _ _ => M - (intOf i).toNat)
    case atStart => exact ⟨0, 0, none, 0, Nat.zero_le _, rfl, rfl, rfl, fun j hj => absurd hj (Nat.not_lt_zero _), World.ownsRow_nil _ _ _ _, Below.refl _ _⟩
    case round =>
      obtain ⟨k, q, A4, c4, hk, hq, rfl, rfl, hO, hrow, hB⟩ := hrel
      by_cases hlt : k < m
      · have hqM : q + 64 ≤ M := by have := hq.out; have := hm64.out.1; omega
        have hqM2 : (q : Int) < (M : Int) := by omega
        have e1 : IntKind.i64.wrap ((q : Int) + 64) = (q : Int) + 64 := by rw [IntKind.wrap_i64]; omega
        have hsl : Sem.run Try.prog (Instr.slice 30 (.slice A M c) (some (.int .i64 (q : Int))) (some (.int .i64 ((q : Int) + 64))) none) wr = .ok (.slice (A.map (·.add q)) 64 (c - q)) wr := by
          have := run_slice2 (P := Try.prog) wr 30 5 i0 Try.underlying30 hi hz1 A M c q (q + 64) (x := (q : Int)) (y := (q : Int) + 64) rfl (by omega) (by omega) (by omega) (by omega)
          rw [show q + 64 - q = 64 by omega] at this
          exact this
        have hxd : Rd wr (.slice (A.map (·.add q)) 64 (c - q)) (bvs (chk bs k)) := by
          have h1 := rd_mid (k := q) (m := 64) (hx0.out.below hB.out) (by have := hM.out; omega)
          rw [hq.out] at h1 ⊢
          exact rd_capw h1 (by have := hq.out; omega)
        have hD := Lib.hid (RDecodeE_calls wr _ (chk bs k) hxd (by unfold chk; rw [List.length_take]; omega))
        have hbk := Lib.hid (hbad.out k hlt hO.out)
        have hdk := Lib.hid (hds.out k)
        have hOk : Hid ((decD (chk bs k)).2 = 0 → okK bs (k + 1)) := fun h j hj => by
          rcases Nat.lt_or_ge j k with h1 | h1
          · exact hO.out j h1
          · have : j = k := by omega
            subst this
            exact h
        generalize decD (chk bs k) = o at *
        obtain ⟨⟨nm, ino⟩, er⟩ := o
        clear hxd
        go_wp2_with fail
        refine hD.out.mono ?_
        rintro e w1 ⟨rfl, hB1⟩
        have hB1' := Lib.hid (hB.out.trans (hB1.mono hB.out.size))
        have hBe : Below w.heap.size w (w1.alloc (.cells #[.string ⟨nm.toArray⟩, .int .i64 ino] 46)) := hB1'.out.alloc hB1'.out.size _
        have hrow1 := Lib.hid (World.ownsRow.alloc (own_below hrow.out hB1) (.cells #[.string ⟨nm.toArray⟩, .int .i64 ino] 46))
        have be := Blk.new w1 46 #[.string ⟨nm.toArray⟩, .int .i64 ino]
        have d0 : (w1.alloc (.cells #[.string ⟨nm.toArray⟩, .int .i64 ino] 46)).cell? ⟨w1.heap.size, 0, none⟩ = some (.string ⟨nm.toArray⟩) := be.cell 0
        have d1 : (w1.alloc (.cells #[.string ⟨nm.toArray⟩, .int .i64 ino] 46)).cell? ⟨w1.heap.size, 1, none⟩ = some (.int .i64 ino) := be.cell 1
        unfold Ent.cells
        simp only
        clear hD hsl hB1
        by_cases he : er = 0
        · subst he
          have hO2 := Lib.hid (hOk.out rfl)
          go_wp2_with (at_builtin; refine stop_app rfl ?_)
          have hnews := cell_news (w1.alloc (.cells #[.string ⟨nm.toArray⟩, .int .i64 ino] 46)) 46 (cellsE [⟨nm, ino⟩])
          rw [World.size_alloc] at hnews
          have hlen := hrow1.out.1
          refine Stop.mk (wpList_appK _ rfl rfl (base := w.heap.size) (news := cellsE [⟨nm, ino⟩]) (m := 1) Try.underlying52 hj hy0 hy1 hy2 rfl (by decide) (World.ownsRow.alloc hrow1.out _) rfl rfl (fun _ => ⟨⟨w1.heap.size + 1, 0, none⟩, rfl, hnews⟩) rfl (cellsE_one _) ?_ ?_ (by have := hBe.size; simp at this ⊢; omega) ?_)
          · have := hm64.out.1; unfold maxLen; omega
          · have := hm64.out.1; omega
          intro v9 w9 hown hg hat
          have hown : w9.ownsRow w.heap.size 46 2 v9 (k + 1) (cellsE (decs bs (k + 1))) := by
            rw [hdk.out, cellsE_app]
            exact hown
          obtain ⟨A9, c9, rfl⟩ := own_shape hown
          have hB9 := Lib.hid ((hBe.alloc hBe.size (.cells #[.string ⟨nm.toArray⟩, .int .i64 ino] 46)).grown hg (by have := hBe.size; simp at this ⊢; omega) (fun j hj => own_ge hrow1.out j hj))
          have hown := Lib.hid hown
          clear hg hat hrow1 hrow be d0 d1 hBe hnews hlen
          go_wp2
          go_roundw
          case rel => exact ⟨k + 1, q + 64, A9, c9, by omega, by show _ = _; rw [hq.out]; omega, by go_num, rfl, hO2, hown, hB9⟩
          case measure => simp [intOf]; omega
        · have heb : (er != 0) = true := by simpa using he
          have hb2 := Lib.hid (hbk.out he)
          have hBeh := Lib.hid hBe
          clear he hBe hrow1 hrow
          go_wp2
          go_ret2
          rw [hb2.out]
          exact ⟨_, rfl, World.ownsRow_nil _ _ _ _, hBeh.out⟩
      · obtain rfl : k = m := by omega
        have hqe : q = M := by have := hq.out; have := hm64.out.1; omega
        subst hqe
        go_wp2
        go_ret2
        rw [hok.out hO.out]
        exact ⟨_, rfl, by unfold OwnR; simp only; rw [hdl.out]; exact own_base hrow.out (Nat.zero_le _), hB.out⟩
  · have e : readD bs = ([], 3) := by unfold readD; rw [if_pos h5]
    rw [e]
    clear e hx
    have hm : ((bs.length : Int) % 512 != 0) = true := by simp; omega
    go_enter Try.func22, Try.ntmps22
    go_wp2
    go_ret2
    exact ⟨_, rfl, World.ownsRow_nil _ _ _ _, Below.refl _ _⟩
end Go.Proofs.Ytoloogpglnonaaa
