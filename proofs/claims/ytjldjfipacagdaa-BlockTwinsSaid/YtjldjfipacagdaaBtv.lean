/- The walk of BlockTwins. -/
import Derived.Test.YtjldjfipacagdaaBtw
namespace Go.Proofs.Ytjldjfipacagdaa
open Go.RowKit
theorem NewO.ok {w w' : World} {n : Int} {e : Ending} (h : NewO w n e w') (hn : ¬ (n < 1 ∨ 16384 < n)) : ∃ g S F, e = .returned (.tuple #[.pointer (some ⟨g, 0, none⟩), .int .i64 0]) ∧ DO w' g (newD n.toNat) S F ∧ Below w.heap.size w w' ∧ (∀ k, S k → w.heap.size ≤ k) ∧ ∀ k, F k → w.heap.size ≤ k := by
  unfold NewO at h
  rwa [if_neg hn] at h
theorem exec_load {P : Program} {o : Oper} {a : Act} {w : World} {ty : TypeId} {x : Operand} {ad : Addr} {v : Value} (ho : o.op = .load ty x) (hx : a.eval x = .pointer (some ad)) (hl : (Instr.loadAt ty (.pointer (some ad))).run P w = .ok v w) :
    (execOp a.eval o).run P w = .ok (.value v) w := by
  unfold execOp
  simp only [ho, hx, Sem.run_bind, hl, Result.andThen_ok, Sem.run_pure]
theorem own_not {w : World} {t : TypeId} {v : Value} {n : Nat} {xs : List Value} {S : Nat → Prop} (h : w.ownsRow 0 t 1 v n xs) (hn : ∀ k cs, Blk w k t cs → ¬ S k) : ∀ j, v.ownBlock = some j → ¬ S j := fun j hj => by
  rcases h.2 with ⟨rfl, _⟩ | ⟨g, cap, cur, rfl, _, hg, _⟩
  · simp [Value.ownBlock] at hj
  · have e : g = j := by simpa [Value.ownBlock] using hj
    subst e
    exact hn _ _ hg
theorem own_lt {w : World} {t : TypeId} {v : Value} {n : Nat} {xs : List Value} (h : w.ownsRow 0 t 1 v n xs) : ∀ j, v.ownBlock = some j → j < w.heap.size :=
  fun j hj => Nat.lt_of_not_le fun hle => own_not (S := fun k => w.heap.size ≤ k) h (fun k cs hb => Nat.not_le.2 (Blk.lt hb)) j hj hle
theorem own_chg {w w' : World} {t : TypeId} {v : Value} {n : Nat} {xs : List Value} {S : Nat → Prop} (h : w.ownsRow 0 t 1 v n xs) (hc : Chg S w w') (hs : ∀ j, v.ownBlock = some j → ¬ S j) : w'.ownsRow 0 t 1 v n xs :=
  ⟨h.1, by
    rcases h.2 with h | ⟨g, cap, cur, rfl, hb, hg, rest⟩
    · exact .inl h
    · exact .inr ⟨g, cap, cur, rfl, hb, (hc.block g (Blk.lt hg) (hs g rfl)).trans hg, rest⟩⟩
theorem T2.grown {w0 w w' : World} {g t : Nat} {d d2 : Dk} {S F S2 F2 : Nat → Prop} {row : Option Nat} (h : T2 w0 w g d S F t d2 S2 F2) (hg : w.grownBy w' row) (hr : ∀ b, row = some b → (¬ S b ∧ ¬ F b) ∧ (¬ S2 b ∧ ¬ F2 b) ∧ w0.heap.size ≤ b) : T2 w0 w' g d S F t d2 S2 F2 := by
  cases row with
  | none => exact h.go ⟨hg.os, hg.tape, hg.output, hg.size, fun k hk => hg.block k hk (by simp)⟩
  | some b =>
    obtain ⟨h1, h2, h3⟩ := hr b rfl
    exact h.far (chg_grown hg) h1 h2 h3
theorem ActV.pv_lt {w : World} {a : ActV} (h : a.ok w) (hne : a.p ≠ []) {j : Nat} (hj : a.pv.ownBlock = some j) : j < w.heap.size := h.2.1.ownlt (fun e => hne (List.map_eq_nil_iff.1 e)) hj
set_option maxRecDepth 100000 in
set_option maxHeartbeats 16000000 in
theorem BlockTwins_calls (w : World) {x0 : Value} {l0 : List ActV} (xx0 : RdA w x0 l0) (ll0 : l0.length ≤ 9223372036854775807) {x1 : Value} {l1 : List ActV} (xx1 : RdA w x1 l1) (ll1 : l1.length ≤ 9223372036854775807) :
    Calls Try.prog 6 #[x0, x1] w fun e w' => e = .returned (.bool true) ∧ Below w.heap.size w w' := by
  have hFewA := fun (W : World) (hB : Below w.heap.size w W) => Few_calls W x0 l0 (xx0.below hB) ll0
  have hFewB := fun (W : World) (hB : Below w.heap.size w W) => Few_calls W x1 l1 (xx1.below hB) ll1
  obtain ⟨A0, c0, rfl⟩ := xx0.shape
  obtain ⟨A1, c1, rfl⟩ := xx1.shape
  have hx0 := Lib.hid xx0
  have hx1 := Lib.hid xx1
  clear xx0 xx1
  cases hf0 : fewB l0
  · rw [hf0] at hFewA
    have hFew0 := Lib.hid hFewA
    clear hFewA hFewB hf0
    go_enter Try.func6, Try.ntmps6
    go_wp2_with fail
    refine (known_calls w).mono ?_
    rintro e w1 ⟨rfl, hB1⟩
    go_wp2_with fail
    refine (hFew0.out w1 hB1).mono ?_
    rintro e w2 ⟨rfl, rfl⟩
    go_wp2
    go_ret
    exact ⟨rfl, hB1⟩
  rw [hf0] at hFewA
  have hFew0 := Lib.hid hFewA
  cases hf1 : fewB l1
  · rw [hf1] at hFewB
    have hFew1 := Lib.hid hFewB
    clear hFewA hFewB hf0 hf1
    go_enter Try.func6, Try.ntmps6
    go_wp2_with fail
    refine (known_calls w).mono ?_
    rintro e w1 ⟨rfl, hB1⟩
    go_wp2_with fail
    refine (hFew0.out w1 hB1).mono ?_
    rintro e w2 ⟨rfl, rfl⟩
    go_wp2_with fail
    refine (hFew1.out w1 hB1).mono ?_
    rintro e w2 ⟨rfl, rfl⟩
    go_wp2
    go_ret
    exact ⟨rfl, hB1⟩
  rw [hf1] at hFewB
  have hFew1 := Lib.hid hFewB
  have hl0 : l0.length ≤ 150 := fewB_len hf0
  have hl1 : l1.length ≤ 150 := fewB_len hf1
  have hat0 := Lib.hid (fun k (hk : k < l0.length) => fewB_at hf0 hk)
  have hat1 := Lib.hid (fun k (hk : k < l1.length) => fewB_at hf1 hk)
  clear hFewA hFewB hf0 hf1
  have hdo : Hid (∀ (W : World) (g : Nat) (d : Dk) (S F : Nat → Prop) (l : List ActV), (∀ k (hk : k < l.length), l[k].b.length ≤ 512 ∧ l[k].p.length ≤ 100) → (∀ a ∈ l, a.ok w) → ∀ k (hk : k < l.length), D1 w W g d S F → ∀ B, Dok 5 B d → B ≤ 1000 →
      Calls Try.prog 22 #[.pointer (some ⟨g, 0, none⟩), .agg l[k].row.toArray] W fun e w' => e = .returned (.int .i64 (doP d l[k]).1) ∧ WroteO W S F g (doP d l[k]).2 w') := fun W g d S F l hat hok k hk hd B hB hB2 =>
    do_calls W g d S hd.dk l[k] ((hok _ (List.getElem_mem hk)).below hd.below) (fun hne j hj hS => by
      have h1 := ActV.pv_lt (hok _ (List.getElem_mem hk)) hne hj
      have h2 := hd.new j hS
      omega) (hat k hk).1 (hat k hk).2 hB (by omega) (by omega)
  have hstep : Hid (∀ (l : List ActV), (∀ k (hk : k < l.length), l[k].b.length ≤ 512 ∧ l[k].p.length ≤ 100) → (∀ a ∈ l, a.ok w) → ∀ k (hk : k < l.length) B d, Dok 5 B d → Dok 5 (B + 1) (doP d l[k]).2) := fun l hat hok k hk B d hB =>
    hB.step l[k] (hok _ (List.getElem_mem hk)).2.2.2.2.2 (hat k hk).2
  go_enter Try.func6, Try.ntmps6
  go_wp2_with fail
  refine (known_calls w).mono ?_
  rintro e w0 ⟨rfl, hB0⟩
  go_wp2_with fail
  refine (hFew0.out w0 hB0).mono ?_
  rintro e w2 ⟨rfl, rfl⟩
  go_wp2_with fail
  refine (hFew1.out w0 hB0).mono ?_
  rintro e w2 ⟨rfl, rfl⟩
  clear hFew0 hFew1
  go_wp2_with fail
  refine (New_callsO w0 5).mono ?_
  intro e w1 h
  obtain ⟨g, S, F, rfl, hdk, hb, hn, _⟩ := h.ok (by omega)
  have hs1 : Hid (D1 w w1 g (newD (5 : Int).toNat) S F) := ⟨hdk, fun k hk => Nat.le_trans hB0.size (hn k hk), hB0.trans (hb.mono hB0.size)⟩
  clear h hdk hb hn hB0
  have hdk1 : Hid (Dok 5 0 (newD (5 : Int).toNat)) := ⟨rfl, rfl, Nat.le_refl _, by show (0 : Int) ≤ _; omega, Nat.zero_le _⟩
  go_wp2
  go_loopw [8] (fun i wr => ∃ (k : Nat) (S' F' : Nat → Prop) (d : Dk), k ≤ l0.length ∧ i = .int .i64 k ∧ Hid (D1 w wr g d S' F') ∧ Hid (Dok 5 k d)) (fun i _ => l0.length - (RowKit.intOf i).toNat)
  case atStart => exact ⟨0, S, F, _, Nat.zero_le _, rfl, hs1, hdk1⟩
  case round =>
    obtain ⟨k, S', F', d, hk, rfl, hs, hdk⟩ := hrel
    clear hs1 hdk1
    by_cases hlt : k < l0.length
    · obtain ⟨ad, rfl, hld⟩ := hx0.out.load hlt
      have hld := hld wr hs.out.below
      have hD := Lib.hid (hdo.out wr g d S' F' l0 hat0.out hx0.out.2 k hlt hs.out k hdk.out (by omega))
      have hN := Lib.hid (hstep.out l0 hat0.out hx0.out.2 k hlt k d hdk.out)
      generalize l0[k] = a at *
      go_wp2_with (with_reducible refine stop_load 43 ?_)
      refine Stop.mk (wpList_load_cells rfl rfl rfl hld ?_)
      clear hld
      go_wp2_with fail
      refine hD.out.mono ?_
      rintro e wb ⟨rfl, hw⟩
      obtain ⟨S3, F3, hs3, _, _, _⟩ := hs.out.wrote hw
      have hs3 := Lib.hid hs3
      clear hw hs hD
      go_wp2
      go_roundw
      case rel => exact ⟨k + 1, S3, F3, _, by omega, by go_num, hs3, hN⟩
      case measure => simp [RowKit.intOf]; omega
    · obtain rfl : k = l0.length := by omega
      have hdo0 := hdk.out
      have hTw := Lib.hid (Twin_callsO wr g d S' hs.out.dk (by rw [hdo0.ll]; omega) (by rw [hdo0.ll]; omega) (by have := hdo0.wt; omega) (by have := hdo0.pk; omega))
      go_wp2_with fail
      refine hTw.out.mono ?_
      rintro e w3 ⟨t, T, G, rfl, ht, hB3, hT, hG⟩
      have h2 := Lib.hid (T2.of_twin hs.out ht hB3 hT)
      clear hTw ht hB3 hT hG hs
      have hImg := Lib.hid (Image_callsO w3 t d T h2.out.two.dk (by rw [hdo0.ll]; omega) (by have := hdo0.wt; omega))
      go_wp2_with fail
      refine hImg.out.mono ?_
      rintro e w4 ⟨wv, rfl, hwr, hB4⟩
      have h24 := Lib.hid (h2.out.go hB4)
      obtain ⟨iA, ic, rfl⟩ := hwr.1.shape8
      have s1 := run_str (P := Try.prog) w4 22 9 5 _ _ Try.underlying22 Try.underlying5 Try.underlying9 hwr.1
      unfold str at s1
      have hWt := Lib.hid (Waiting_callsO w4 t d T h24.out.two.dk (by have := hdo0.wt; omega))
      clear hImg h2 hwr hB4
      go_wp2_with fail
      refine hWt.out.mono ?_
      rintro e w5 ⟨rfl, hB5⟩
      have h25 := Lib.hid (h24.out.go hB5)
      clear hWt h24 hB5 s1
      obtain ⟨i0, hi, hz0, hz1, hz2⟩ := info_parts Try.info_int
      go_wp2
      go_loopw [12, 13] (fun v i wr => ∃ (k : Nat) (S1 F1 : Nat → Prop) (A : Option Addr) (c : Nat), k ≤ l1.length ∧ i = .int .i64 k ∧ v = .slice A k c ∧ Hid (T2 w wr g (stD d (l1.take k)) S1 F1 t d T G) ∧ Hid (Dok 5 (l0.length + k) (stD d (l1.take k))) ∧ Hid (wr.ownsRow 0 3 1 (.slice A k c) k (ivs (anD d l1 k))) ∧ Hid (∀ j, (Value.slice A k c).ownBlock = some j → ¬ F1 j ∧ ¬ G j ∧ w.heap.size ≤ j)) (fun _ i _ => l1.length - (RowKit.intOf i).toNat)
      case atStart => exact ⟨0, S', F', none, 0, Nat.zero_le _, rfl, rfl, h25, hdo0.mono (Nat.le_refl _), World.ownsRow_nil _ _ _ _, fun j hj => by simp [Value.ownBlock] at hj⟩
      case round =>
        obtain ⟨k, S1, F1, A, c, hk, rfl, rfl, hT2, hdk2, hrow, hfr⟩ := hrel
        clear h25
        by_cases hlt : k < l1.length
        · obtain ⟨ad, rfl, hld⟩ := hx1.out.load hlt
          have hld := hld wr hT2.out.one.below
          have hD := Lib.hid (hdo.out wr g _ S1 F1 l1 hat1.out hx1.out.2 k hlt hT2.out.one (l0.length + k) hdk2.out (by omega))
          have hN := Lib.hid (hstep.out l1 hat1.out hx1.out.2 k hlt (l0.length + k) _ hdk2.out)
          have hst := Lib.hid (stD_succ d l1 hlt)
          have han := Lib.hid (anD_succ d l1 hlt)
          generalize l1[k] = a at *
          generalize hq : stD d (List.take k l1) = dk at *
          go_wp2_with (with_reducible refine stop_load 43 ?_)
          refine Stop.mk (wpList_load_cells rfl rfl rfl hld ?_)
          clear hld
          go_wp2_with fail
          refine hD.out.mono ?_
          rintro e wb ⟨rfl, hw⟩
          obtain ⟨S3, F3, h3, hch, hF3⟩ := hT2.out.wrote hw
          have hnS := own_not hrow.out hT2.out.one.dk.noti
          have hrowb := Lib.hid (World.ownsRow.alloc (own_chg hrow.out hch hnS) (.cells #[.int .i64 (doP dk a).1] 3))
          have hnS3 := own_not (own_chg hrow.out hch hnS) h3.one.dk.noti
          have hnT3 := own_not (own_chg hrow.out hch hnS) h3.two.dk.noti
          have hlt3 := own_lt hrow.out
          have hszb := hch.size
          have h3c := h3.go (alloc_below wb (.cells #[.int .i64 (doP dk a).1] 3))
          have hrd : Hid (Rd (wb.alloc (.cells #[.int .i64 (doP dk a).1] 3)) (.slice (some ⟨wb.heap.size, 0, none⟩) 1 1) (ivs [(doP dk a).1])) := rd_new wb (ivs [(doP dk a).1]) 3 1 rfl
          go_wp2_with (at_builtin; refine stop_app rfl ?_)
          refine Stop.mk (wpList_app _ rfl rfl (us := ivs [(doP dk a).1]) (base := 0) Try.underlying36 hi hz0 hz1 hz2 rfl hrowb.out rfl hrd.out rfl (ivs_one _) ?_ ?_ (Nat.zero_le _) ?_)
          · unfold maxLen; simp only [ivs, List.length_map, List.length_cons, List.length_nil]; omega
          · simp only [ivs, List.length_map, List.length_cons, List.length_nil]; omega
          intro v9 w9 hown hg hat
          have hown : w9.ownsRow 0 3 1 v9 (k + 1) (ivs (anD d l1 k ++ [(doP dk a).1])) := by
            have e : ivs (anD d l1 k ++ [(doP dk a).1]) = ivs (anD d l1 k) ++ ivs [(doP dk a).1] := by simp [ivs]
            rw [e]
            exact hown
          rw [← han.out] at hown
          obtain ⟨A9, c9, rfl⟩ := own_shape hown
          have h39 := h3c.grown hg (fun b hb => by
            obtain ⟨q1, q2, q3⟩ := hfr.out b hb
            have hb2 := hlt3 b hb
            exact ⟨⟨hnS3 b hb, fun hf => by rcases hF3 b hf with e | e; exact q1 e; omega⟩, ⟨hnT3 b hb, q2⟩, q3⟩)
          have hfr9 : Hid (∀ j, (Value.slice A9 (k + 1) c9).ownBlock = some j → ¬ F3 j ∧ ¬ G j ∧ w.heap.size ≤ j) := fun j hj => by
            rcases hat with e | e
            · rw [e] at hj
              obtain ⟨q1, q2, q3⟩ := hfr.out j hj
              have hb2 := hlt3 j hj
              exact ⟨fun hf => by rcases hF3 j hf with e | e; exact q1 e; omega, q2, q3⟩
            · rw [hj] at e
              injection e with e
              have h5 := h3c.one.below.size
              have f1 := h3.one.dk.fl j
              have f2 := h3.two.dk.fl j
              rw [World.size_alloc] at e h5
              exact ⟨fun hf => by have := f1 hf; omega, fun hf => by have := f2 hf; omega, by omega⟩
          rw [← hst.out] at h39
          have h39 := Lib.hid h39
          have hN : Hid (Dok 5 (l0.length + (k + 1)) (stD d (l1.take (k + 1)))) := by
            show Dok _ _ _
            rw [hst.out]
            exact hN.out
          have hown := Lib.hid hown
          clear hw hD h3 hch hF3 hnS hrowb hnS3 hnT3 hlt3 h3c hrd hg hat hfr hrow hdk2 hT2 hst han
          go_wp2
          go_roundw
          case rel => exact ⟨k + 1, S3, F3, A9, c9, by omega, by go_num, rfl, h39, hN, hown, hfr9⟩
          case measure => simp [RowKit.intOf]; omega
        · obtain rfl : k = l1.length := by omega
          rw [List.take_length] at hT2 hdk2
          obtain ⟨dE, hdE⟩ : ∃ dE, Hid (dE = stD d l1) := ⟨_, rfl⟩
          have hdk0 : Hid (Dok 5 (l0.length + l1.length) d) := hdo0.mono (Nat.le_add_right _ _)
          rw [← hdE.out] at hT2 hdk2
          have hImg := Lib.hid (Image_callsO wr t d T hT2.out.two.dk (by rw [hdo0.ll]; omega) (by have := hdo0.wt; omega))
          go_wp2_with fail
          refine hImg.out.mono ?_
          rintro e w6 ⟨wv, rfl, hwr, hB6⟩
          have h26 := Lib.hid (hT2.out.go hB6)
          have hrow6 := Lib.hid (own_chg (S := fun _ => False) hrow.out (Chg.of_below hB6) (fun _ _ h => h))
          obtain ⟨iA2, ic2, rfl⟩ := hwr.1.shape8
          have s1 := run_str (P := Try.prog) w6 22 9 5 _ _ Try.underlying22 Try.underlying5 Try.underlying9 hwr.1
          unfold str at s1
          have hWt := Lib.hid (Waiting_callsO w6 t d T h26.out.two.dk (by have := hdo0.wt; omega))
          clear hImg hT2 hwr hB6 hrow
          go_wp2_with fail
          refine hWt.out.mono ?_
          rintro e w7 ⟨rfl, hB7⟩
          have h27 := Lib.hid (h26.out.go hB7).swap
          have hrow7 := Lib.hid (own_chg (S := fun _ => False) hrow6.out (Chg.of_below hB7) (fun _ _ h => h))
          clear hWt h26 hB7 s1 hrow6
          go_wp2
          go_loopw [14] (fun i wr => ∃ (k : Nat) (S2 F2 : Nat → Prop), k ≤ l1.length ∧ i = .int .i64 k ∧ Hid (T2 w wr t (stD d (l1.take k)) S2 F2 g dE S1 F1) ∧ Hid (Dok 5 (l0.length + k) (stD d (l1.take k))) ∧ Hid (wr.ownsRow 0 3 1 (.slice A l1.length c) l1.length (ivs (anD d l1 l1.length)))) (fun i _ => l1.length - (RowKit.intOf i).toNat)
          case atStart => exact ⟨0, T, G, Nat.zero_le _, rfl, h27, hdo0.mono (Nat.le_refl _), hrow7⟩
          case round =>
            obtain ⟨k, S2, F2, hk3, rfl, hT3, hdk3, hrow3⟩ := hrel
            clear h27 hrow7
            by_cases hlt3 : k < l1.length
            · obtain ⟨ad, rfl, hld⟩ := hx1.out.load hlt3
              have hld := Lib.hid hld
              have hD := Lib.hid (hdo.out wr.drew t _ S2 F2 l1 hat1.out hx1.out.2 k hlt3 (hT3.out.go ((Below.refl _ _).drew)).one (l0.length + k) hdk3.out (by omega))
              have hN := Lib.hid (hstep.out l1 hat1.out hx1.out.2 k hlt3 (l0.length + k) _ hdk3.out)
              have hst := Lib.hid (stD_succ d l1 hlt3)
              have hga := Lib.hid (anD_at d l1 hlt3 hlt3)
              generalize l1[k] = a at *
              generalize stD d (List.take k l1) = dk at *
              have hB3 := hT3.out.one.below
              obtain ⟨ga, rfl, hgc⟩ : ∃ ga, A = some ga ∧ wr.cell? (ga.add k) = some (.int .i64 (doP dk a).1) := by
                have hr := Rd.of_own hrow3.out
                have hkl : k < (ivs (anD d l1 l1.length)).length := by simp [ivs, anD_len]; exact hlt3
                obtain ⟨ga, cc, e, hcc⟩ := hr.cell hkl
                injection e with e1 _ _
                refine ⟨ga, e1, hcc.trans ?_⟩
                have h5 : (ivs (anD d l1 l1.length))[k]? = some (.int .i64 (doP dk a).1) := by rw [ivs, List.getElem?_map, hga.out]; rfl
                rw [List.getElem?_eq_getElem hkl] at h5
                exact h5
              go_wp2_with fail
              have hC0 : Below w.heap.size w wr.drew ∧ wr.drew.cell? (ga.add k) = some (.int .i64 (doP dk a).1) := ⟨hB3.drew, hgc⟩
              refine wp_mixs (fun W => Below w.heap.size w W ∧ W.cell? (ga.add k) = some (.int .i64 (doP dk a).1)) [6] (by kernel_rfl) (by kernel_rfl) (by kernel_rfl) (by decide) hC0 ?_
              iterate 5 ((first | refine mixsq rfl rfl 0 (by decide +kernel) ?_ (fun w' hw' => Or.inl ?_) (fun K hK => ?_) | refine mixsq rfl rfl 1 (by decide +kernel) ?_ (fun w' hw' => Or.inl ?_) (fun K hK => ?_) | refine mixsq rfl rfl 2 (by decide +kernel) ?_ (fun w' hw' => Or.inl ?_) (fun K hK => ?_) | refine mixsq rfl rfl 3 (by decide +kernel) ?_ (fun w' hw' => Or.inl ?_) (fun K hK => ?_) | refine mixsq rfl rfl 4 (by decide +kernel) ?_ (fun w' hw' => Or.inl ?_) (fun K hK => ?_) | refine mixsq rfl rfl 5 (by decide +kernel) ?_ (fun w' hw' => Or.inl ?_) (fun K hK => ?_) | refine mixsq rfl rfl 6 (by decide +kernel) ?_ (fun w' hw' => Or.inl ?_) (fun K hK => ?_) | refine mixsq rfl rfl 7 (by decide +kernel) ?_ (fun w' hw' => Or.inl ?_) (fun K hK => ?_) | refine mixsq rfl rfl 8 (by decide +kernel) ?_ (fun w' hw' => Or.inl ?_) (fun K hK => ?_)); rotate_left; (focus (go_simp; rfl)); go_simp; refine hK _ ?_; clear hK K)
              refine mixsq rfl rfl 0 (by decide +kernel) (.agg a.row.toArray) (fun w' hw' => Or.inl (exec_load rfl rfl (hld.out w' (show Below w.heap.size w w' ∧ _ from hw').1))) (fun K hK => ?_)
              go_simp
              refine hK _ ?_
              clear hK K
              refine mixsl rfl rfl (fun K hK => ?_)
              go_simp
              refine hD.out.mono ?_
              rintro e wb ⟨rfl, hw⟩
              obtain ⟨S3, F3, h3, hch, _⟩ := (hT3.out.go ((Below.refl _ _).drew)).wrote hw
              have hrowb := own_chg (own_chg (S := fun _ => False) hrow3.out (Chg.of_below ((Below.refl _ wr).drew)) (fun _ _ h => h)) hch (own_not hrow3.out hT3.out.one.dk.noti)
              have hcb : wb.cell? (ga.add k) = some (.int .i64 (doP dk a).1) := by
                obtain ⟨ga', cc, e, hcc⟩ := (Rd.of_own hrowb).cell (j := k) (by simp [ivs, anD_len]; exact hlt3)
                injection e with e1 _ _
                injection e1 with e1
                subst e1
                refine hcc.trans ?_
                have h5 : (ivs (anD d l1 l1.length))[k]? = some (.int .i64 (doP dk a).1) := by rw [ivs, List.getElem?_map, hga.out]; rfl
                rw [List.getElem?_eq_getElem (by simp [ivs, anD_len]; exact hlt3)] at h5
                exact h5
              have hCb : Below w.heap.size w wb ∧ wb.cell? (ga.add k) = some (.int .i64 (doP dk a).1) := ⟨h3.one.below, hcb⟩
              refine hK (fun W => Below w.heap.size w W ∧ W.cell? (ga.add k) = some (.int .i64 (doP dk a).1)) _ _ (fun _ => ⟨hCb, fun _ => hCb⟩) ?_
              clear hK K
              iterate 3 ((first | refine mixsq rfl rfl 0 (by decide +kernel) ?_ (fun w' hw' => Or.inl ?_) (fun K hK => ?_) | refine mixsq rfl rfl 1 (by decide +kernel) ?_ (fun w' hw' => Or.inl ?_) (fun K hK => ?_) | refine mixsq rfl rfl 2 (by decide +kernel) ?_ (fun w' hw' => Or.inl ?_) (fun K hK => ?_) | refine mixsq rfl rfl 3 (by decide +kernel) ?_ (fun w' hw' => Or.inl ?_) (fun K hK => ?_) | refine mixsq rfl rfl 4 (by decide +kernel) ?_ (fun w' hw' => Or.inl ?_) (fun K hK => ?_) | refine mixsq rfl rfl 5 (by decide +kernel) ?_ (fun w' hw' => Or.inl ?_) (fun K hK => ?_) | refine mixsq rfl rfl 6 (by decide +kernel) ?_ (fun w' hw' => Or.inl ?_) (fun K hK => ?_) | refine mixsq rfl rfl 7 (by decide +kernel) ?_ (fun w' hw' => Or.inl ?_) (fun K hK => ?_) | refine mixsq rfl rfl 8 (by decide +kernel) ?_ (fun w' hw' => Or.inl ?_) (fun K hK => ?_)); rotate_left; (focus (go_simp; rfl)); go_simp; refine hK _ ?_; clear hK K)
              (first | refine mixsq rfl rfl 0 (by decide +kernel) ?_ (fun w' hw' => Or.inl ?_) (fun K hK => ?_) | refine mixsq rfl rfl 1 (by decide +kernel) ?_ (fun w' hw' => Or.inl ?_) (fun K hK => ?_) | refine mixsq rfl rfl 2 (by decide +kernel) ?_ (fun w' hw' => Or.inl ?_) (fun K hK => ?_) | refine mixsq rfl rfl 3 (by decide +kernel) ?_ (fun w' hw' => Or.inl ?_) (fun K hK => ?_) | refine mixsq rfl rfl 4 (by decide +kernel) ?_ (fun w' hw' => Or.inl ?_) (fun K hK => ?_) | refine mixsq rfl rfl 5 (by decide +kernel) ?_ (fun w' hw' => Or.inl ?_) (fun K hK => ?_) | refine mixsq rfl rfl 6 (by decide +kernel) ?_ (fun w' hw' => Or.inl ?_) (fun K hK => ?_) | refine mixsq rfl rfl 7 (by decide +kernel) ?_ (fun w' hw' => Or.inl ?_) (fun K hK => ?_) | refine mixsq rfl rfl 8 (by decide +kernel) ?_ (fun w' hw' => Or.inl ?_) (fun K hK => ?_)); rotate_left; (focus (have hc : w'.cell? (ga.add k) = some (.int .i64 (doP dk a).1) := hw'.2; go_simp; rfl)); go_simp; refine hK _ ?_; clear hK K
              (first | refine mixsq rfl rfl 0 (by decide +kernel) ?_ (fun w' hw' => Or.inl ?_) (fun K hK => ?_) | refine mixsq rfl rfl 1 (by decide +kernel) ?_ (fun w' hw' => Or.inl ?_) (fun K hK => ?_) | refine mixsq rfl rfl 2 (by decide +kernel) ?_ (fun w' hw' => Or.inl ?_) (fun K hK => ?_) | refine mixsq rfl rfl 3 (by decide +kernel) ?_ (fun w' hw' => Or.inl ?_) (fun K hK => ?_) | refine mixsq rfl rfl 4 (by decide +kernel) ?_ (fun w' hw' => Or.inl ?_) (fun K hK => ?_) | refine mixsq rfl rfl 5 (by decide +kernel) ?_ (fun w' hw' => Or.inl ?_) (fun K hK => ?_) | refine mixsq rfl rfl 6 (by decide +kernel) ?_ (fun w' hw' => Or.inl ?_) (fun K hK => ?_) | refine mixsq rfl rfl 7 (by decide +kernel) ?_ (fun w' hw' => Or.inl ?_) (fun K hK => ?_) | refine mixsq rfl rfl 8 (by decide +kernel) ?_ (fun w' hw' => Or.inl ?_) (fun K hK => ?_)); rotate_left; (focus (go_simp; rfl)); go_simp; refine hK _ ?_; clear hK K
              refine mixs_nil ?_
              have h3 := Lib.hid h3
              have hrowb := Lib.hid hrowb
              have hN : Hid (Dok 5 (l0.length + (k + 1)) (stD d (l1.take (k + 1)))) := by
                show Dok _ _ _
                rw [hst.out]
                exact hN.out
              clear hw hD hch hT3 hrow3 hld hgc hga
              go_wp2
              go_roundw
              case rel => exact ⟨k + 1, S3, F3, by omega, by go_num, by rw [hst.out]; exact h3, hN, hrowb⟩
              case measure => simp [RowKit.intOf]; omega
            · obtain rfl : k = l1.length := by omega
              rw [List.take_length, ← hdE.out] at hT3 hdk3
              have hdE0 := hdk3.out
              clear hrow3 hdk2 hdk0
              go_wp2_with fail
              have b0 : Below wr.heap.size wr wr.drew := (Below.refl _ _).drew
              refine wp_mixs (fun W => Below wr.heap.size wr W) [1, 4, 9, 11, 16, 18, 23, 25] (by kernel_rfl) (by kernel_rfl) (by kernel_rfl) (by decide) b0 ?_
              (first | refine mixsq rfl rfl 0 (by decide +kernel) ?_ (fun w' hw' => Or.inl ?_) (fun K hK => ?_) | refine mixsq rfl rfl 1 (by decide +kernel) ?_ (fun w' hw' => Or.inl ?_) (fun K hK => ?_) | refine mixsq rfl rfl 2 (by decide +kernel) ?_ (fun w' hw' => Or.inl ?_) (fun K hK => ?_) | refine mixsq rfl rfl 3 (by decide +kernel) ?_ (fun w' hw' => Or.inl ?_) (fun K hK => ?_) | refine mixsq rfl rfl 4 (by decide +kernel) ?_ (fun w' hw' => Or.inl ?_) (fun K hK => ?_) | refine mixsq rfl rfl 5 (by decide +kernel) ?_ (fun w' hw' => Or.inl ?_) (fun K hK => ?_) | refine mixsq rfl rfl 6 (by decide +kernel) ?_ (fun w' hw' => Or.inl ?_) (fun K hK => ?_) | refine mixsq rfl rfl 7 (by decide +kernel) ?_ (fun w' hw' => Or.inl ?_) (fun K hK => ?_) | refine mixsq rfl rfl 8 (by decide +kernel) ?_ (fun w' hw' => Or.inl ?_) (fun K hK => ?_)); rotate_left; (focus (go_simp; rfl)); go_simp; refine hK _ ?_; clear hK K
              refine mixsl rfl rfl (fun K hK => ?_)
              go_simp
              refine (Image_callsO wr.drew t dE S2 (hT3.out.go b0).one.dk (by rw [hdE0.ll]; omega) (by have := hdE0.wt; omega)).mono ?_
              rintro e w9 ⟨r1, rfl, hr1, hB9⟩
              have b9 := b0.trans (hB9.mono b0.size)
              have q1 := hr1.1
              clear hr1
              obtain ⟨iA9, ic9, rfl⟩ := q1.shape8
              refine hK (fun W => Below wr.heap.size wr W ∧ Rd W (.slice iA9 (imgP dE).length ic9) (bvs (imgP dE))) _ _ (fun _ => ⟨⟨b9, q1⟩, fun _ => b9⟩) ?_
              clear hK K
              (refine mixsq rfl rfl 1 (by decide +kernel) ?_ (fun w' hw' => Or.inl ?_) (fun K hK => ?_)); rotate_left; (focus (have hb : Below wr.heap.size wr w' ∧ Rd w' (.slice iA9 (imgP dE).length ic9) (bvs (imgP dE)) := hw'; have s1 := run_str (P := Try.prog) w' 22 9 5 _ _ Try.underlying22 Try.underlying5 Try.underlying9 hb.2; unfold str at s1; go_simp; rfl)); go_simp; refine hK _ ?_; clear hK K
              (first | refine mixsq rfl rfl 0 (by decide +kernel) ?_ (fun w' hw' => Or.inl ?_) (fun K hK => ?_) | refine mixsq rfl rfl 1 (by decide +kernel) ?_ (fun w' hw' => Or.inl ?_) (fun K hK => ?_) | refine mixsq rfl rfl 2 (by decide +kernel) ?_ (fun w' hw' => Or.inl ?_) (fun K hK => ?_) | refine mixsq rfl rfl 3 (by decide +kernel) ?_ (fun w' hw' => Or.inl ?_) (fun K hK => ?_) | refine mixsq rfl rfl 4 (by decide +kernel) ?_ (fun w' hw' => Or.inl ?_) (fun K hK => ?_) | refine mixsq rfl rfl 5 (by decide +kernel) ?_ (fun w' hw' => Or.inl ?_) (fun K hK => ?_) | refine mixsq rfl rfl 6 (by decide +kernel) ?_ (fun w' hw' => Or.inl ?_) (fun K hK => ?_) | refine mixsq rfl rfl 7 (by decide +kernel) ?_ (fun w' hw' => Or.inl ?_) (fun K hK => ?_) | refine mixsq rfl rfl 8 (by decide +kernel) ?_ (fun w' hw' => Or.inl ?_) (fun K hK => ?_)); rotate_left; (focus (go_simp; rfl)); go_simp; refine hK _ ?_; clear hK K
              refine mixsl rfl rfl (fun K hK => ?_)
              go_simp
              refine (Image_callsO w9 g dE S1 (hT3.out.go b9).two.dk (by rw [hdE0.ll]; omega) (by have := hdE0.wt; omega)).mono ?_
              rintro e w10 ⟨r2, rfl, hr2, hB10⟩
              have b10 := b9.trans (hB10.mono b9.size)
              have q2 := hr2.1
              clear hr2
              obtain ⟨iA10, ic10, rfl⟩ := q2.shape8
              have q1 := q1.below hB10
              refine hK (fun W => Below wr.heap.size wr W ∧ Rd W (.slice iA10 (imgP dE).length ic10) (bvs (imgP dE))) _ _ (fun _ => ⟨⟨b10, q2⟩, ext_all (fun _ => b10) ⟨b10, q1⟩⟩) ?_
              clear hK K
              (refine mixsq rfl rfl 2 (by decide +kernel) ?_ (fun w' hw' => Or.inl ?_) (fun K hK => ?_)); rotate_left; (focus (have hb : Below wr.heap.size wr w' ∧ Rd w' (.slice iA10 (imgP dE).length ic10) (bvs (imgP dE)) := hw'; have s1 := run_str (P := Try.prog) w' 22 9 5 _ _ Try.underlying22 Try.underlying5 Try.underlying9 hb.2; unfold str at s1; go_simp; rfl)); go_simp; refine hK _ ?_; clear hK K
              iterate 2 ((first | refine mixsq rfl rfl 0 (by decide +kernel) ?_ (fun w' hw' => Or.inl ?_) (fun K hK => ?_) | refine mixsq rfl rfl 1 (by decide +kernel) ?_ (fun w' hw' => Or.inl ?_) (fun K hK => ?_) | refine mixsq rfl rfl 2 (by decide +kernel) ?_ (fun w' hw' => Or.inl ?_) (fun K hK => ?_) | refine mixsq rfl rfl 3 (by decide +kernel) ?_ (fun w' hw' => Or.inl ?_) (fun K hK => ?_) | refine mixsq rfl rfl 4 (by decide +kernel) ?_ (fun w' hw' => Or.inl ?_) (fun K hK => ?_) | refine mixsq rfl rfl 5 (by decide +kernel) ?_ (fun w' hw' => Or.inl ?_) (fun K hK => ?_) | refine mixsq rfl rfl 6 (by decide +kernel) ?_ (fun w' hw' => Or.inl ?_) (fun K hK => ?_) | refine mixsq rfl rfl 7 (by decide +kernel) ?_ (fun w' hw' => Or.inl ?_) (fun K hK => ?_) | refine mixsq rfl rfl 8 (by decide +kernel) ?_ (fun w' hw' => Or.inl ?_) (fun K hK => ?_)); rotate_left; (focus (go_simp; rfl)); go_simp; refine hK _ ?_; clear hK K)
              (first | refine mixsq_yes rfl (by first | rfl | kernel_rfl) 0 (by decide +kernel) ?_ (fun w' hw' => Or.inl ?_) (fun K hK => ?_) | refine mixsq_yes rfl (by first | rfl | kernel_rfl) 1 (by decide +kernel) ?_ (fun w' hw' => Or.inl ?_) (fun K hK => ?_) | refine mixsq_yes rfl (by first | rfl | kernel_rfl) 2 (by decide +kernel) ?_ (fun w' hw' => Or.inl ?_) (fun K hK => ?_) | refine mixsq_yes rfl (by first | rfl | kernel_rfl) 3 (by decide +kernel) ?_ (fun w' hw' => Or.inl ?_) (fun K hK => ?_) | refine mixsq_yes rfl (by first | rfl | kernel_rfl) 4 (by decide +kernel) ?_ (fun w' hw' => Or.inl ?_) (fun K hK => ?_) | refine mixsq_yes rfl (by first | rfl | kernel_rfl) 5 (by decide +kernel) ?_ (fun w' hw' => Or.inl ?_) (fun K hK => ?_) | refine mixsq_yes rfl (by first | rfl | kernel_rfl) 6 (by decide +kernel) ?_ (fun w' hw' => Or.inl ?_) (fun K hK => ?_) | refine mixsq_yes rfl (by first | rfl | kernel_rfl) 7 (by decide +kernel) ?_ (fun w' hw' => Or.inl ?_) (fun K hK => ?_) | refine mixsq_yes rfl (by first | rfl | kernel_rfl) 8 (by decide +kernel) ?_ (fun w' hw' => Or.inl ?_) (fun K hK => ?_)); rotate_left; (focus (go_simp; rfl)); go_simp; refine hK _ ?_; clear hK K
              refine mixsl_yes rfl (by first | rfl | kernel_rfl) (fun K hK => ?_)
              go_simp
              refine (Waiting_callsO w10 t dE S2 (hT3.out.go b10).one.dk (by have := hdE0.wt; omega)).mono ?_
              rintro e w11 ⟨rfl, hB11⟩
              have b11 := b10.trans (hB11.mono b10.size)
              have q1 := q1.below hB11
              have q2 := q2.below hB11
              refine hK (fun W => Below wr.heap.size wr W) _ _ (fun _ => ⟨b11, ext_all (ext_all (fun _ => b11) ⟨b11, q1⟩) ⟨b11, q2⟩⟩) ?_
              clear hK K
              (first | refine mixsq_yes rfl (by first | rfl | kernel_rfl) 0 (by decide +kernel) ?_ (fun w' hw' => Or.inl ?_) (fun K hK => ?_) | refine mixsq_yes rfl (by first | rfl | kernel_rfl) 1 (by decide +kernel) ?_ (fun w' hw' => Or.inl ?_) (fun K hK => ?_) | refine mixsq_yes rfl (by first | rfl | kernel_rfl) 2 (by decide +kernel) ?_ (fun w' hw' => Or.inl ?_) (fun K hK => ?_) | refine mixsq_yes rfl (by first | rfl | kernel_rfl) 3 (by decide +kernel) ?_ (fun w' hw' => Or.inl ?_) (fun K hK => ?_) | refine mixsq_yes rfl (by first | rfl | kernel_rfl) 4 (by decide +kernel) ?_ (fun w' hw' => Or.inl ?_) (fun K hK => ?_) | refine mixsq_yes rfl (by first | rfl | kernel_rfl) 5 (by decide +kernel) ?_ (fun w' hw' => Or.inl ?_) (fun K hK => ?_) | refine mixsq_yes rfl (by first | rfl | kernel_rfl) 6 (by decide +kernel) ?_ (fun w' hw' => Or.inl ?_) (fun K hK => ?_) | refine mixsq_yes rfl (by first | rfl | kernel_rfl) 7 (by decide +kernel) ?_ (fun w' hw' => Or.inl ?_) (fun K hK => ?_) | refine mixsq_yes rfl (by first | rfl | kernel_rfl) 8 (by decide +kernel) ?_ (fun w' hw' => Or.inl ?_) (fun K hK => ?_)); rotate_left; (focus (go_simp; rfl)); go_simp; refine hK _ ?_; clear hK K
              refine mixsl_yes rfl (by first | rfl | kernel_rfl) (fun K hK => ?_)
              go_simp
              refine (Waiting_callsO w11 g dE S1 (hT3.out.go b11).two.dk (by have := hdE0.wt; omega)).mono ?_
              rintro e w12 ⟨rfl, hB12⟩
              have b12 := b11.trans (hB12.mono b11.size)
              have q1 := q1.below hB12
              have q2 := q2.below hB12
              refine hK (fun W => Below wr.heap.size wr W) _ _ (fun _ => ⟨b12, ext_all (ext_all (ext_all (fun _ => b12) ⟨b12, q1⟩) ⟨b12, q2⟩) b12⟩) ?_
              clear hK K
              (first | refine mixsq_yes rfl (by first | rfl | kernel_rfl) 0 (by decide +kernel) ?_ (fun w' hw' => Or.inl ?_) (fun K hK => ?_) | refine mixsq_yes rfl (by first | rfl | kernel_rfl) 1 (by decide +kernel) ?_ (fun w' hw' => Or.inl ?_) (fun K hK => ?_) | refine mixsq_yes rfl (by first | rfl | kernel_rfl) 2 (by decide +kernel) ?_ (fun w' hw' => Or.inl ?_) (fun K hK => ?_) | refine mixsq_yes rfl (by first | rfl | kernel_rfl) 3 (by decide +kernel) ?_ (fun w' hw' => Or.inl ?_) (fun K hK => ?_) | refine mixsq_yes rfl (by first | rfl | kernel_rfl) 4 (by decide +kernel) ?_ (fun w' hw' => Or.inl ?_) (fun K hK => ?_) | refine mixsq_yes rfl (by first | rfl | kernel_rfl) 5 (by decide +kernel) ?_ (fun w' hw' => Or.inl ?_) (fun K hK => ?_) | refine mixsq_yes rfl (by first | rfl | kernel_rfl) 6 (by decide +kernel) ?_ (fun w' hw' => Or.inl ?_) (fun K hK => ?_) | refine mixsq_yes rfl (by first | rfl | kernel_rfl) 7 (by decide +kernel) ?_ (fun w' hw' => Or.inl ?_) (fun K hK => ?_) | refine mixsq_yes rfl (by first | rfl | kernel_rfl) 8 (by decide +kernel) ?_ (fun w' hw' => Or.inl ?_) (fun K hK => ?_)); rotate_left; (focus (go_simp; rfl)); go_simp; refine hK _ ?_; clear hK K
              iterate 2 ((first | refine mixsq rfl rfl 0 (by decide +kernel) ?_ (fun w' hw' => Or.inl ?_) (fun K hK => ?_) | refine mixsq rfl rfl 1 (by decide +kernel) ?_ (fun w' hw' => Or.inl ?_) (fun K hK => ?_) | refine mixsq rfl rfl 2 (by decide +kernel) ?_ (fun w' hw' => Or.inl ?_) (fun K hK => ?_) | refine mixsq rfl rfl 3 (by decide +kernel) ?_ (fun w' hw' => Or.inl ?_) (fun K hK => ?_) | refine mixsq rfl rfl 4 (by decide +kernel) ?_ (fun w' hw' => Or.inl ?_) (fun K hK => ?_) | refine mixsq rfl rfl 5 (by decide +kernel) ?_ (fun w' hw' => Or.inl ?_) (fun K hK => ?_) | refine mixsq rfl rfl 6 (by decide +kernel) ?_ (fun w' hw' => Or.inl ?_) (fun K hK => ?_) | refine mixsq rfl rfl 7 (by decide +kernel) ?_ (fun w' hw' => Or.inl ?_) (fun K hK => ?_) | refine mixsq rfl rfl 8 (by decide +kernel) ?_ (fun w' hw' => Or.inl ?_) (fun K hK => ?_)); rotate_left; (focus (go_simp; rfl)); go_simp; refine hK _ ?_; clear hK K)
              (first | refine mixsq_yes rfl (by first | rfl | kernel_rfl) 0 (by decide +kernel) ?_ (fun w' hw' => Or.inl ?_) (fun K hK => ?_) | refine mixsq_yes rfl (by first | rfl | kernel_rfl) 1 (by decide +kernel) ?_ (fun w' hw' => Or.inl ?_) (fun K hK => ?_) | refine mixsq_yes rfl (by first | rfl | kernel_rfl) 2 (by decide +kernel) ?_ (fun w' hw' => Or.inl ?_) (fun K hK => ?_) | refine mixsq_yes rfl (by first | rfl | kernel_rfl) 3 (by decide +kernel) ?_ (fun w' hw' => Or.inl ?_) (fun K hK => ?_) | refine mixsq_yes rfl (by first | rfl | kernel_rfl) 4 (by decide +kernel) ?_ (fun w' hw' => Or.inl ?_) (fun K hK => ?_) | refine mixsq_yes rfl (by first | rfl | kernel_rfl) 5 (by decide +kernel) ?_ (fun w' hw' => Or.inl ?_) (fun K hK => ?_) | refine mixsq_yes rfl (by first | rfl | kernel_rfl) 6 (by decide +kernel) ?_ (fun w' hw' => Or.inl ?_) (fun K hK => ?_) | refine mixsq_yes rfl (by first | rfl | kernel_rfl) 7 (by decide +kernel) ?_ (fun w' hw' => Or.inl ?_) (fun K hK => ?_) | refine mixsq_yes rfl (by first | rfl | kernel_rfl) 8 (by decide +kernel) ?_ (fun w' hw' => Or.inl ?_) (fun K hK => ?_)); rotate_left; (focus (go_simp; rfl)); go_simp; refine hK _ ?_; clear hK K
              refine mixsl_yes rfl (by first | rfl | kernel_rfl) (fun K hK => ?_)
              go_simp
              refine (Off_callsO w12 t dE S2 (hT3.out.go b12).one.dk).mono ?_
              rintro e w13 ⟨rfl, rfl⟩
              refine hK (fun W => Below wr.heap.size wr W) _ _ (fun _ => ⟨b12, ext_all (ext_all (ext_all (ext_all (fun _ => b12) ⟨b12, q1⟩) ⟨b12, q2⟩) b12) b12⟩) ?_
              clear hK K
              (first | refine mixsq_yes rfl (by first | rfl | kernel_rfl) 0 (by decide +kernel) ?_ (fun w' hw' => Or.inl ?_) (fun K hK => ?_) | refine mixsq_yes rfl (by first | rfl | kernel_rfl) 1 (by decide +kernel) ?_ (fun w' hw' => Or.inl ?_) (fun K hK => ?_) | refine mixsq_yes rfl (by first | rfl | kernel_rfl) 2 (by decide +kernel) ?_ (fun w' hw' => Or.inl ?_) (fun K hK => ?_) | refine mixsq_yes rfl (by first | rfl | kernel_rfl) 3 (by decide +kernel) ?_ (fun w' hw' => Or.inl ?_) (fun K hK => ?_) | refine mixsq_yes rfl (by first | rfl | kernel_rfl) 4 (by decide +kernel) ?_ (fun w' hw' => Or.inl ?_) (fun K hK => ?_) | refine mixsq_yes rfl (by first | rfl | kernel_rfl) 5 (by decide +kernel) ?_ (fun w' hw' => Or.inl ?_) (fun K hK => ?_) | refine mixsq_yes rfl (by first | rfl | kernel_rfl) 6 (by decide +kernel) ?_ (fun w' hw' => Or.inl ?_) (fun K hK => ?_) | refine mixsq_yes rfl (by first | rfl | kernel_rfl) 7 (by decide +kernel) ?_ (fun w' hw' => Or.inl ?_) (fun K hK => ?_) | refine mixsq_yes rfl (by first | rfl | kernel_rfl) 8 (by decide +kernel) ?_ (fun w' hw' => Or.inl ?_) (fun K hK => ?_)); rotate_left; (focus (go_simp; rfl)); go_simp; refine hK _ ?_; clear hK K
              refine mixsl_yes rfl (by first | rfl | kernel_rfl) (fun K hK => ?_)
              go_simp
              refine (Off_callsO w12 g dE S1 (hT3.out.go b12).two.dk).mono ?_
              rintro e w13 ⟨rfl, rfl⟩
              refine hK (fun W => Below wr.heap.size wr W) _ _ (fun _ => ⟨b12, ext_all (ext_all (ext_all (ext_all (ext_all (fun _ => b12) ⟨b12, q1⟩) ⟨b12, q2⟩) b12) b12) b12⟩) ?_
              clear hK K
              (first | refine mixsq_yes rfl (by first | rfl | kernel_rfl) 0 (by decide +kernel) ?_ (fun w' hw' => Or.inl ?_) (fun K hK => ?_) | refine mixsq_yes rfl (by first | rfl | kernel_rfl) 1 (by decide +kernel) ?_ (fun w' hw' => Or.inl ?_) (fun K hK => ?_) | refine mixsq_yes rfl (by first | rfl | kernel_rfl) 2 (by decide +kernel) ?_ (fun w' hw' => Or.inl ?_) (fun K hK => ?_) | refine mixsq_yes rfl (by first | rfl | kernel_rfl) 3 (by decide +kernel) ?_ (fun w' hw' => Or.inl ?_) (fun K hK => ?_) | refine mixsq_yes rfl (by first | rfl | kernel_rfl) 4 (by decide +kernel) ?_ (fun w' hw' => Or.inl ?_) (fun K hK => ?_) | refine mixsq_yes rfl (by first | rfl | kernel_rfl) 5 (by decide +kernel) ?_ (fun w' hw' => Or.inl ?_) (fun K hK => ?_) | refine mixsq_yes rfl (by first | rfl | kernel_rfl) 6 (by decide +kernel) ?_ (fun w' hw' => Or.inl ?_) (fun K hK => ?_) | refine mixsq_yes rfl (by first | rfl | kernel_rfl) 7 (by decide +kernel) ?_ (fun w' hw' => Or.inl ?_) (fun K hK => ?_) | refine mixsq_yes rfl (by first | rfl | kernel_rfl) 8 (by decide +kernel) ?_ (fun w' hw' => Or.inl ?_) (fun K hK => ?_)); rotate_left; (focus (go_simp; rfl)); go_simp; refine hK _ ?_; clear hK K
              iterate 2 ((first | refine mixsq rfl rfl 0 (by decide +kernel) ?_ (fun w' hw' => Or.inl ?_) (fun K hK => ?_) | refine mixsq rfl rfl 1 (by decide +kernel) ?_ (fun w' hw' => Or.inl ?_) (fun K hK => ?_) | refine mixsq rfl rfl 2 (by decide +kernel) ?_ (fun w' hw' => Or.inl ?_) (fun K hK => ?_) | refine mixsq rfl rfl 3 (by decide +kernel) ?_ (fun w' hw' => Or.inl ?_) (fun K hK => ?_) | refine mixsq rfl rfl 4 (by decide +kernel) ?_ (fun w' hw' => Or.inl ?_) (fun K hK => ?_) | refine mixsq rfl rfl 5 (by decide +kernel) ?_ (fun w' hw' => Or.inl ?_) (fun K hK => ?_) | refine mixsq rfl rfl 6 (by decide +kernel) ?_ (fun w' hw' => Or.inl ?_) (fun K hK => ?_) | refine mixsq rfl rfl 7 (by decide +kernel) ?_ (fun w' hw' => Or.inl ?_) (fun K hK => ?_) | refine mixsq rfl rfl 8 (by decide +kernel) ?_ (fun w' hw' => Or.inl ?_) (fun K hK => ?_)); rotate_left; (focus (go_simp; rfl)); go_simp; refine hK _ ?_; clear hK K)
              (first | refine mixsq_yes rfl (by first | rfl | kernel_rfl) 0 (by decide +kernel) ?_ (fun w' hw' => Or.inl ?_) (fun K hK => ?_) | refine mixsq_yes rfl (by first | rfl | kernel_rfl) 1 (by decide +kernel) ?_ (fun w' hw' => Or.inl ?_) (fun K hK => ?_) | refine mixsq_yes rfl (by first | rfl | kernel_rfl) 2 (by decide +kernel) ?_ (fun w' hw' => Or.inl ?_) (fun K hK => ?_) | refine mixsq_yes rfl (by first | rfl | kernel_rfl) 3 (by decide +kernel) ?_ (fun w' hw' => Or.inl ?_) (fun K hK => ?_) | refine mixsq_yes rfl (by first | rfl | kernel_rfl) 4 (by decide +kernel) ?_ (fun w' hw' => Or.inl ?_) (fun K hK => ?_) | refine mixsq_yes rfl (by first | rfl | kernel_rfl) 5 (by decide +kernel) ?_ (fun w' hw' => Or.inl ?_) (fun K hK => ?_) | refine mixsq_yes rfl (by first | rfl | kernel_rfl) 6 (by decide +kernel) ?_ (fun w' hw' => Or.inl ?_) (fun K hK => ?_) | refine mixsq_yes rfl (by first | rfl | kernel_rfl) 7 (by decide +kernel) ?_ (fun w' hw' => Or.inl ?_) (fun K hK => ?_) | refine mixsq_yes rfl (by first | rfl | kernel_rfl) 8 (by decide +kernel) ?_ (fun w' hw' => Or.inl ?_) (fun K hK => ?_)); rotate_left; (focus (go_simp; rfl)); go_simp; refine hK _ ?_; clear hK K
              refine mixsl_yes rfl (by first | rfl | kernel_rfl) (fun K hK => ?_)
              go_simp
              refine (Writes_callsO w12 t dE S2 (hT3.out.go b12).one.dk).mono ?_
              rintro e w13 ⟨rfl, rfl⟩
              refine hK (fun W => Below wr.heap.size wr W) _ _ (fun _ => ⟨b12, ext_all (ext_all (ext_all (ext_all (ext_all (ext_all (fun _ => b12) ⟨b12, q1⟩) ⟨b12, q2⟩) b12) b12) b12) b12⟩) ?_
              clear hK K
              (first | refine mixsq_yes rfl (by first | rfl | kernel_rfl) 0 (by decide +kernel) ?_ (fun w' hw' => Or.inl ?_) (fun K hK => ?_) | refine mixsq_yes rfl (by first | rfl | kernel_rfl) 1 (by decide +kernel) ?_ (fun w' hw' => Or.inl ?_) (fun K hK => ?_) | refine mixsq_yes rfl (by first | rfl | kernel_rfl) 2 (by decide +kernel) ?_ (fun w' hw' => Or.inl ?_) (fun K hK => ?_) | refine mixsq_yes rfl (by first | rfl | kernel_rfl) 3 (by decide +kernel) ?_ (fun w' hw' => Or.inl ?_) (fun K hK => ?_) | refine mixsq_yes rfl (by first | rfl | kernel_rfl) 4 (by decide +kernel) ?_ (fun w' hw' => Or.inl ?_) (fun K hK => ?_) | refine mixsq_yes rfl (by first | rfl | kernel_rfl) 5 (by decide +kernel) ?_ (fun w' hw' => Or.inl ?_) (fun K hK => ?_) | refine mixsq_yes rfl (by first | rfl | kernel_rfl) 6 (by decide +kernel) ?_ (fun w' hw' => Or.inl ?_) (fun K hK => ?_) | refine mixsq_yes rfl (by first | rfl | kernel_rfl) 7 (by decide +kernel) ?_ (fun w' hw' => Or.inl ?_) (fun K hK => ?_) | refine mixsq_yes rfl (by first | rfl | kernel_rfl) 8 (by decide +kernel) ?_ (fun w' hw' => Or.inl ?_) (fun K hK => ?_)); rotate_left; (focus (go_simp; rfl)); go_simp; refine hK _ ?_; clear hK K
              refine mixsl_yes rfl (by first | rfl | kernel_rfl) (fun K hK => ?_)
              go_simp
              refine (Writes_callsO w12 g dE S1 (hT3.out.go b12).two.dk).mono ?_
              rintro e w13 ⟨rfl, rfl⟩
              refine hK (fun W => Below wr.heap.size wr W) _ _ (fun _ => ⟨b12, ext_all (ext_all (ext_all (ext_all (ext_all (ext_all (ext_all (fun _ => b12) ⟨b12, q1⟩) ⟨b12, q2⟩) b12) b12) b12) b12) b12⟩) ?_
              clear hK K
              (first | refine mixsq_yes rfl (by first | rfl | kernel_rfl) 0 (by decide +kernel) ?_ (fun w' hw' => Or.inl ?_) (fun K hK => ?_) | refine mixsq_yes rfl (by first | rfl | kernel_rfl) 1 (by decide +kernel) ?_ (fun w' hw' => Or.inl ?_) (fun K hK => ?_) | refine mixsq_yes rfl (by first | rfl | kernel_rfl) 2 (by decide +kernel) ?_ (fun w' hw' => Or.inl ?_) (fun K hK => ?_) | refine mixsq_yes rfl (by first | rfl | kernel_rfl) 3 (by decide +kernel) ?_ (fun w' hw' => Or.inl ?_) (fun K hK => ?_) | refine mixsq_yes rfl (by first | rfl | kernel_rfl) 4 (by decide +kernel) ?_ (fun w' hw' => Or.inl ?_) (fun K hK => ?_) | refine mixsq_yes rfl (by first | rfl | kernel_rfl) 5 (by decide +kernel) ?_ (fun w' hw' => Or.inl ?_) (fun K hK => ?_) | refine mixsq_yes rfl (by first | rfl | kernel_rfl) 6 (by decide +kernel) ?_ (fun w' hw' => Or.inl ?_) (fun K hK => ?_) | refine mixsq_yes rfl (by first | rfl | kernel_rfl) 7 (by decide +kernel) ?_ (fun w' hw' => Or.inl ?_) (fun K hK => ?_) | refine mixsq_yes rfl (by first | rfl | kernel_rfl) 8 (by decide +kernel) ?_ (fun w' hw' => Or.inl ?_) (fun K hK => ?_)); rotate_left; (focus (go_simp; rfl)); go_simp; refine hK _ ?_; clear hK K
              iterate 2 ((first | refine mixsq rfl rfl 0 (by decide +kernel) ?_ (fun w' hw' => Or.inl ?_) (fun K hK => ?_) | refine mixsq rfl rfl 1 (by decide +kernel) ?_ (fun w' hw' => Or.inl ?_) (fun K hK => ?_) | refine mixsq rfl rfl 2 (by decide +kernel) ?_ (fun w' hw' => Or.inl ?_) (fun K hK => ?_) | refine mixsq rfl rfl 3 (by decide +kernel) ?_ (fun w' hw' => Or.inl ?_) (fun K hK => ?_) | refine mixsq rfl rfl 4 (by decide +kernel) ?_ (fun w' hw' => Or.inl ?_) (fun K hK => ?_) | refine mixsq rfl rfl 5 (by decide +kernel) ?_ (fun w' hw' => Or.inl ?_) (fun K hK => ?_) | refine mixsq rfl rfl 6 (by decide +kernel) ?_ (fun w' hw' => Or.inl ?_) (fun K hK => ?_) | refine mixsq rfl rfl 7 (by decide +kernel) ?_ (fun w' hw' => Or.inl ?_) (fun K hK => ?_) | refine mixsq rfl rfl 8 (by decide +kernel) ?_ (fun w' hw' => Or.inl ?_) (fun K hK => ?_)); rotate_left; (focus (go_simp; rfl)); go_simp; refine hK _ ?_; clear hK K)
              refine mixs_nil ?_
              have hBe := Lib.hid (hT3.out.one.below.trans (b12.mono hT3.out.one.below.size))
              go_wp2
              go_ret
              exact ⟨rfl, hBe.out⟩
end Go.Proofs.Ytjldjfipacagdaa
