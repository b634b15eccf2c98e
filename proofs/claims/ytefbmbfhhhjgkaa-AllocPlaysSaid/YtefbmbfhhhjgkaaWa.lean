/- The log: what is wrong with a disk; a first block is told, is read. -/
import Derived.Test.YtefbmbfhhhjgkaaWp
namespace Go.Proofs.Ytefbmbfhhhjgkaa
open Go.RowKit
theorem AskOk_calls (w : World) {g N M : Nat} {d : Dk} {V : Nat → List UInt8} {S : Nat → Prop} (hd : DK w g d S) (hv : Vw N M d V) (hN : 65 < N) :
    Calls Try.prog 49 #[.pointer (some ⟨g, 0, none⟩)] w (Ans w (.int .i64 0)) := by
  have hB := Blocks_calls w g d S hd
  rw [hv.dl] at hB
  have hO := Off_calls w g d S hd
  rw [hv.of] at hO
  clear hd hv
  go_enter Try.func49, Try.ntmps49
  go_wp2_with fail
  refine hB.mono ?_
  rintro e w1 ⟨rfl, rfl⟩
  go_wp2_with fail
  refine hO.mono ?_
  rintro e w1 ⟨rfl, rfl⟩
  go_wp2
  go_ret
  exact ⟨rfl, rfl⟩
theorem AskFew_calls (w : World) {g N M : Nat} {d : Dk} {V : Nat → List UInt8} {S : Nat → Prop} (hd : DK w g d S) (hv : Vw N M d V) (hN : N ≤ 65) :
    Calls Try.prog 49 #[.pointer (some ⟨g, 0, none⟩)] w (Ans w (.int .i64 1)) := by
  have hB := Blocks_calls w g d S hd
  rw [hv.dl] at hB
  clear hd hv
  go_enter Try.func49, Try.ntmps49
  go_wp2_with fail
  refine hB.mono ?_
  rintro e w1 ⟨rfl, rfl⟩
  go_wp2
  go_ret
  exact ⟨rfl, rfl⟩
theorem stop_copy {P : Program} {w : World} {ops : Array Oper} {rest : List Oper} {o : Oper} {a : Act} {Q : Exit → Act → World → Prop} {s x : Operand} {t u : TypeId}
    (_ : o.op = .call { callee := .builtin .copy, args := #[s, x], argTypes := #[t, u] }) (h : Stop (wpList P ops Q (o :: rest) a w)) : wpList P ops Q (o :: rest) a w := h
def HeadOut (w : World) (ns : List Nat) (e : Ending) (w' : World) : Prop := ∃ b c, e = .returned (.slice (some ⟨b, 0, none⟩) 512 c) ∧ Own8 w' (.slice (some ⟨b, 0, none⟩) 512 c) (headP ns) ∧ Below w.heap.size w w' ∧ w.heap.size ≤ b
theorem rd_mark (w : World) (us : List Value) (t : TypeId) (m : Nat × Nat) (n : Nat) (hn : n = us.length) : Rd (w.alloc (.cells us.toArray t m)) (.slice (some ⟨w.heap.size, 0, none⟩) n n) us := by
  subst hn
  refine ⟨_, us.length, rfl, Nat.le_refl _, fun _ => ⟨_, rfl, fun j u hu => ?_⟩⟩
  rw [addr_add_at, Nat.zero_add]
  have e := heap_alloc_new w (.cells us.toArray t m)
  simp only [World.cell?, e]
  simpa using hu
set_option maxRecDepth 10000 in
set_option maxHeartbeats 4000000 in
theorem head_calls (w : World) (x : Value) (ns : List Nat) (hx : Rd w x (nvs ns)) (hl : ns.length ≤ 63) : Calls Try.prog 58 #[x] w (HeadOut w ns) := by
  obtain ⟨i0, hi, hz0, hz1, hz2⟩ := info_parts Try.info_u8
  obtain ⟨xA, xc, rfl⟩ := hx.shapeN
  have hx0 := Lib.hid hx
  have hmk := run_mkr (P := Try.prog) 63 5 i0 (.int .u8 0) Try.underlying63 hi hz0 rfl hz1 512 (by rw [hz2]; omega) (by omega)
  obtain ⟨Zs, hZs⟩ : ∃ Zs, Hid (Zs = List.replicate 512 (Value.int .u8 0)) := ⟨_, Lib.hid rfl⟩
  rw [← hZs.out] at hmk
  have hZl : Hid (Zs.length = 512) := by show _ = _; rw [hZs.out, List.length_replicate]
  have hsz1 : (Try.prog.info? 5).map (·.size) = some 1 := by kernel_rfl
  have hcv := fun (W : World) (C : Array Value) => Lib.run_convert_bytes_const (P := Try.prog) W 63 5 C 8 8 Try.underlying63 Try.underlying5
  have hfin := Lib.hid (head_splice hl Zs hZs.out)
  have hMid : Hid (headB ns = (magicB ++ le16 (ns.length : Int)) ++ ns.flatMap fun n : Nat => le16 (n : Int)) := rfl
  have hfx := Lib.hid (fun (W : World) (g : Nat) (v : Value) (h : Wr W g v []) => Fixed_calls (W.alloc (.cells #[.int .u8 109, .int .u8 97, .int .u8 105, .int .u8 108, .int .u8 98, .int .u8 97, .int .u8 103, .int .u8 49] 5 (8, 9))) g v (.slice (some ⟨W.heap.size, 0, none⟩) 8 8) [] magicB 8 8 ⟨h.blk.alloc _, h.own.alloc _⟩ (rd_mark W (bvs magicB) 5 (8, 9) 8 rfl) (by simp) (by simp [magicB]) (by decide))
  have hM8 : Hid ([] ++ (List.take 8 magicB ++ List.replicate (8 - magicB.length) 0) = magicB) := rfl
  rw [hM8.out] at hfx
  clear hx hM8
  have hL := Lib.hid hl
  obtain ⟨L, hLL⟩ : ∃ L, Hid (L = ns.length) := ⟨_, Lib.hid rfl⟩
  rw [← hLL.out] at hl hMid ⊢
  generalize hmg : magicB = mg at *
  have hmgl : Hid (mg.length = 8) := by show _ = _; rw [← hmg]; rfl
  clear hmg hi hz0 hz1 hz2
  go_enter Try.func58, Try.ntmps58
  go_wp2_with fail
  refine (NewWriter_calls w).mono ?_
  rintro e w1 ⟨g, rfl, hg, hwr, hB1⟩
  have hF := Lib.hid (hfx.out w1 g _ hwr)
  have hg := Lib.hid hg
  clear hfx hwr
  go_wp2_with fail
  refine hF.out.mono ?_
  rintro e w2 ⟨rfl, v2, hwr2, hc2, ho2⟩
  have hB2 : Hid (Below w.heap.size w w2) := by
    have h1 : Below w.heap.size w (w1.alloc (.cells #[.int .u8 109, .int .u8 97, .int .u8 105, .int .u8 108, .int .u8 98, .int .u8 97, .int .u8 103, .int .u8 49] 5 (8, 9))) := hB1.alloc hB1.size _
    exact h1.trans (hc2.below h1.size (fun k hk => by rcases hk with rfl | hk; exact hg.out; simp [Value.ownBlock] at hk))
  have hv2 : Hid (∀ k, v2.ownBlock = some k → w.heap.size ≤ k) := fun k hk => by
    rcases ho2 with h | ⟨k', h, hle⟩
    · rw [h] at hk; simp [Value.ownBlock] at hk
    · rw [h] at hk
      injection hk with hk
      have := hB1.size
      rw [World.size_alloc] at hle
      omega
  have hU := Lib.hid (U16_calls w2 g v2 mg (L : Int) hwr2 (by rw [hmgl.out]; omega))
  clear hF hc2 ho2 hwr2 hB1
  go_wp2_with fail
  refine hU.out.mono ?_
  rintro e w3 ⟨rfl, v3, hwr3, hc3, ho3⟩
  have hB3 : Hid (Below w.heap.size w w3) := hB2.out.trans (hc3.below hB2.out.size (fun k hk => by rcases hk with rfl | hk; exact hg.out; exact hv2.out k hk))
  have hv3 : Hid (∀ k, v3.ownBlock = some k → w.heap.size ≤ k) := fun k hk => by
    rcases ho3 with h | ⟨k', h, hle⟩
    · rw [h] at hk; exact hv2.out k hk
    · rw [h] at hk
      injection hk with hk
      have := hB2.out.size
      omega
  have hwr3 : Hid (Wr w3 g v3 ((mg ++ le16 (L : Int)) ++ (ns.take 0).flatMap fun n : Nat => le16 (n : Int))) := by show Wr _ _ _ _; simpa using hwr3
  have hm0 : Hid ((mg ++ le16 (L : Int)).length = 10) := by show _ = _; rw [List.length_append, hmgl.out]; rfl
  clear hU hc3 ho3 hB2 hv2 hmgl
  generalize mg ++ le16 (L : Int) = M0 at *
  go_wp2
  go_loopw [5, 18] (fun _ iv wr => ∃ (k : Nat) (v : Value), k ≤ L ∧ iv = .int .i64 (k : Int) ∧ Hid (Wr wr g v (M0 ++ (ns.take k).flatMap fun n : Nat => le16 (n : Int))) ∧ Hid (Below w.heap.size w wr) ∧ Hid (∀ k, v.ownBlock = some k → w.heap.size ≤ k)) (fun _ iv _ => L - (RowKit.intOf iv).toNat)
  case atStart => exact ⟨0, v3, Nat.zero_le _, rfl, hwr3, hB3, hv3⟩
  case round =>
    obtain ⟨k, v, hk, rfl, hwr, hB, hv⟩ := hrel
    clear hwr3 hB3 hv3
    have hln : Hid ((M0 ++ (ns.take k).flatMap fun n : Nat => le16 (n : Int)).length ≤ 136) := by
      show _ ≤ _
      rw [List.length_append, hm0.out, flat_len, List.length_take]
      omega
    by_cases hlt : k < L
    · have hkn : k < ns.length := by rw [← hLL.out]; exact hlt
      obtain ⟨ad, rfl, z1⟩ := (hx0.out.below hB.out).natAt hkn
      have hU := Lib.hid (U16_calls wr g v _ (ns[k] : Int) hwr.out (by have := hln.out; omega))
      have hnx : Hid ((M0 ++ (ns.take k).flatMap fun n : Nat => le16 (n : Int)) ++ le16 (ns[k] : Int) = M0 ++ (ns.take (k + 1)).flatMap fun n : Nat => le16 (n : Int)) := by
        show _ = _
        rw [List.take_succ_eq_append_getElem hkn, List.flatMap_append, List.append_assoc]
        simp
      rw [hnx.out] at hU
      generalize ns[k] = nk at *
      clear hnx hln hwr
      go_wp2_with fail
      refine hU.out.mono ?_
      rintro e w4 ⟨rfl, v4, hwr4, hc4, ho4⟩
      have hB4 : Hid (Below w.heap.size w w4) := hB.out.trans (hc4.below hB.out.size (fun k hk => by rcases hk with rfl | hk; exact hg.out; exact hv.out k hk))
      have hv4 : Hid (∀ k, v4.ownBlock = some k → w.heap.size ≤ k) := fun k hk => by
        rcases ho4 with h | ⟨k', h, hle⟩
        · rw [h] at hk; exact hv.out k hk
        · rw [h] at hk
          injection hk with hk
          have := hB.out.size
          omega
      have hwr4 := Lib.hid hwr4
      clear hU hc4 ho4 hB hv
      go_wp2
      go_roundw
      case rel => exact ⟨k + 1, v4, by omega, by go_num, hwr4, hB4, hv4⟩
      case measure => simp [RowKit.intOf]; omega
    · obtain rfl : k = L := by omega
      rw [show ns.take k = ns by rw [hLL.out, List.take_length]] at hwr hln
      rw [← hMid.out] at hwr hln
      obtain ⟨hb, hhb⟩ : ∃ hb, Hid (headB ns = hb) := ⟨_, Lib.hid rfl⟩
      rw [hhb.out] at hwr hln hfin
      have hsz : w.heap.size ≤ wr.heap.size := hB.out.size
      have hown : Hid (Own8 (wr.alloc (.cells Zs.toArray 5)) (.slice (some ⟨wr.heap.size, 0, none⟩) 512 512) (List.replicate 512 0)) := by
        have := own_mkr wr 5 Zs 512 hZl.out (by omega)
        show World.ownsRow _ _ _ _ _ _ _
        rw [List.length_replicate, show bvs (List.replicate 512 0) = Zs from by rw [hZs.out]; simp only [bvs, List.map_replicate]; rfl]
        exact this
      have hBa : Hid (Below w.heap.size w (wr.alloc (.cells Zs.toArray 5))) := hB.out.alloc hsz _
      have hwa : Hid (Wr (wr.alloc (.cells Zs.toArray 5)) g v hb) := ⟨hwr.out.blk.alloc _, hwr.out.own.alloc _⟩
      have hga : Hid ((wr.alloc (.cells Zs.toArray 5)).heap[wr.heap.size]? = some (.cells Zs.toArray 5 (0, 0))) := heap_alloc_new wr _
      have hbsz : Hid (wr.heap.size < (wr.alloc (.cells Zs.toArray 5)).heap.size) := by show _ < _; rw [World.size_alloc]; omega
      obtain ⟨zb, hzb⟩ : ∃ zb, Hid (wr.heap.size = zb) := ⟨_, Lib.hid rfl⟩
      have hmk1 : (Instr.makeSlice 63 (.int .i64 512) (.int .i64 512)).run Try.prog wr = .ok (.slice (some ⟨wr.heap.size, 0, none⟩) 512 512) (wr.alloc (.cells Zs.toArray 5)) := hmk wr
      rw [hzb.out] at hown hga hbsz hsz hmk1
      generalize wr.alloc (.cells Zs.toArray 5) = wz at *
      clear hmk hwr hB hv hMid hzb
      have hD := Lib.hid (Done_calls wz g v hb hwa.out (by have := hln.out; omega))
      clear hwa
      go_wp2_with fail
      refine hD.out.mono ?_
      rintro e w5 ⟨r, rfl, ho5, hB5, hr5⟩
      obtain ⟨rA, rc, rfl⟩ := ho5.shape
      have hg5 : w5.heap[zb]? = some (.cells Zs.toArray 5 (0, 0)) := (hB5.block zb hbsz.out).trans hga.out
      have hB6 : Hid (Below w.heap.size w w5) := hBa.out.trans (hB5.mono hBa.out.size)
      have hrd := Rd.of_own ho5
      have hbpos : 0 < hb.length := by rw [← hhb.out, headB_len]; omega
      obtain ⟨ad, hadA, hcp⟩ : ∃ ad, rA = some ad ∧ ∀ j u, (bvs hb)[j]? = some u → w5.cell? (ad.add j) = some u := by
        obtain ⟨A', c', e, _, hr⟩ := hrd
        injection e with e1 _ _
        obtain ⟨ad, e2, hc⟩ := hr (by intro e3; have := congrArg List.length e3; rw [bvs_length] at this; simp at this; rw [this] at hbpos; simp at hbpos)
        exact ⟨ad, e1.trans e2, hc⟩
      subst hadA
      have hrun := run_copy_row (P := Try.prog) w5 63 63 3 5 zb 0 512 512 ad hb.length rc Zs.toArray 5 (bvs hb) Try.underlying63 hsz1 hg5 (by
        have := hln.out
        rw [bvs_length]
        exact (Nat.min_eq_left (by omega)).symm) hcp (by
        have h1 := hln.out
        have h2 := hZl.out
        rw [bvs_length]
        simp
        omega) (bvs_one _)
      obtain ⟨w7, hw7⟩ : ∃ w7, w7 = w5.setRow zb ((Zs.toArray.toList.take 0 ++ bvs hb ++ Zs.toArray.toList.drop (0 + (bvs hb).length)).toArray) := ⟨_, rfl⟩
      rw [← hw7] at hrun
      have hg7 : Hid (w7.heap[zb]? = some (.cells (bvs (headP ns)).toArray 5 (0, 0))) := by
        show _ = _
        rw [hw7]
        refine (setRow_heap w5 zb _ _ 5 _ hg5).trans ?_
        have h := hfin.out
        unfold splice at h
        rw [← h, ← List.append_assoc]
      have hB7 : Hid (Below w.heap.size w w7) := by
        show Below _ _ _
        rw [hw7]
        exact below_setRow hB6.out hsz _
      generalize goInt (bvs hb).length = cn at hrun
      clear hw7
      have hsz := Lib.hid hsz
      obtain ⟨rN, hrN⟩ : ∃ n, Hid (hb.length = n) := ⟨_, Lib.hid rfl⟩
      rw [hrN.out] at hrun ⊢
      clear hD hB5 ho5 hr5 hga hBa hrd hown hmk1 hcp hbpos hg5 hbsz
      go_wp2
      go_ret
      have hP5 := headP_len hL.out
      refine ⟨zb, 512, rfl, ⟨by rw [bvs_length, Nat.mul_one], .inr ⟨zb, 512, _, by rw [hP5], Nat.zero_le _, hg7.out, by rw [hP5]; omega, by unfold maxLen; omega, by simp [bvs_length, hP5], ?_⟩⟩, hB7.out, hsz.out⟩
      rw [Nat.mul_one]
      show List.take _ (bvs (headP ns)) = _
      rw [← bvs_length, List.take_length]
end Go.Proofs.Ytefbmbfhhhjgkaa
