/- The document's disk: Write, New. -/
import Derived.Test.YtjldjfipacagdaaRfc
namespace Go.Proofs.Ytjldjfipacagdaa
open Go.RowKit
theorem run_appK {P : Program} (w : World) (base : Nat) (t ty e : TypeId) (i : TypeInfo) (z : Value) (size bytes : Nat) (ht : P.underlying t = some (.slice e)) (hi : P.info? e = some i) (hz : i.zero = some z)
    (hsize : i.size = size) (hby : i.bytes = bytes) (hzs : z.cells.size = size) (hsz : 0 < size)
    (v : Value) (n : Nat) (xs : List Value) (hown : w.ownsRow base e size v n xs) (A : Option Addr) (m c : Nat) (news : List Value) (hl : news.length = m * size)
    (hr : m ≠ 0 → ∃ ad, A = some ad ∧ ∀ j u, news[j]? = some u → w.cell? (ad.add j) = some u) (h1 : ∀ u ∈ news, u.oneCell' = true)
    (h63 : n + m ≤ maxLen) (hbytes : (n + m) * bytes ≤ 140737488355328) (hbase : base ≤ w.heap.size) :
    ∃ v' w', (Builtin.append_ #[t, t] ty #[v, .slice A m c]).run P w = .ok v' w' ∧ w'.ownsRow base e size v' (n + m) (xs ++ news) ∧ w.grownBy w' v.ownBlock ∧
      (v'.ownBlock = v.ownBlock ∨ v'.ownBlock = some w.heap.size) := by
  by_cases hm : m = 0
  · subst hm
    have hn : news = [] := by simpa using hl
    subst hn
    rcases A with _ | ad
    · refine ⟨v, w, ?_, by simpa using hown, ⟨rfl, rfl, rfl, Nat.le_refl _, fun _ _ _ => rfl⟩, .inl rfl⟩
      rcases hown.2 with ⟨rfl, rfl⟩ | ⟨g, cap, cur, rfl, _, _, hnc, _⟩
      · simp [Builtin.append_, run_underlying ht, sizeOf, typeInfo, hi, Builtin.lenOf, Builtin.firstCells]
      · simp [Builtin.append_, run_underlying ht, sizeOf, typeInfo, hi, Builtin.lenOf, Builtin.firstCells, hnc, storeCells]
    · obtain ⟨v', w', hrun, h2, h3, _, h5⟩ := run_append_own_at (P := P) w base t ty e i z size bytes ht hi hz hsize hby hzs hsz v n xs hown ad 0 c [] (by simp) (by intro j u hu; simp at hu) h1 h63 hbytes hbase
      exact ⟨v', w', hrun, h2, h3, h5⟩
  · obtain ⟨ad, rfl, hcell⟩ := hr hm
    obtain ⟨v', w', hrun, h2, h3, _, h5⟩ := run_append_own_at (P := P) w base t ty e i z size bytes ht hi hz hsize hby hzs hsz v n xs hown ad m c news hl hcell h1 h63 hbytes hbase
    exact ⟨v', w', hrun, h2, h3, h5⟩
theorem wpList_appK {P : Program} (w : World) {ops : Array Oper} {rest : List Oper} {o : Oper} {a : Act} {Q : Exit → Act → World → Prop} (hgd : o.guard = none) {s x : Operand} {t : TypeId}
    (ho : o.op = .call { callee := .builtin .append, args := #[s, x], argTypes := #[t, t] })
    {base e : Nat} {i : TypeInfo} {z : Value} {size bytes : Nat} (ht : P.underlying t = some (.slice e)) (hi : P.info? e = some i) (hz : i.zero = some z)
    (hsize : i.size = size) (hby : i.bytes = bytes) (hzs : z.cells.size = size) (hsz : 0 < size)
    {v : Value} {n : Nat} {xs news : List Value} (hown : w.ownsRow base e size v n xs) (hs : a.eval s = v) {A : Option Addr} {m c : Nat} (hl : news.length = m * size)
    (hr : m ≠ 0 → ∃ ad, A = some ad ∧ ∀ j u, news[j]? = some u → w.cell? (ad.add j) = some u) (hx : a.eval x = .slice A m c) (h1 : ∀ u ∈ news, u.oneCell' = true)
    (h63 : n + m ≤ maxLen) (hbytes : (n + m) * bytes ≤ 140737488355328) (hbase : base ≤ w.heap.size)
    (h : ∀ v' w', w'.ownsRow base e size v' (n + m) (xs ++ news) → w.grownBy w' v.ownBlock → (v'.ownBlock = v.ownBlock ∨ v'.ownBlock = some w.heap.size) → wpList P ops Q rest (a.put o.dst v') w') :
    wpList P ops Q (o :: rest) a w :=
  wpList_plain hgd fun K hK => by
    obtain ⟨v', w', hrun, h2, h3, h5⟩ := run_appK (P := P) w base t o.type e i z size bytes ht hi hz hsize hby hzs hsz v n xs hown A m c news hl hr h1 h63 hbytes hbase
    unfold Oper.wp execOp
    simp only [ho, resolve, invoke, builtin, Sem.run_bind, Sem.run_pure, Result.andThen_ok, List.map_toArray, List.map_cons, List.map_nil, hs, hx, hrun]
    exact hK _ _ (h v' w' h2 h3 h5)
theorem cell_news (w : World) (t : TypeId) (us : List Value) : ∀ (j : Nat) (u : Value), us[j]? = some u → (w.alloc (.cells us.toArray t)).cell? ((⟨w.heap.size, 0, none⟩ : Addr).add j) = some u := fun j u hu => by
  rw [addr_add_at, (Blk.new w t us.toArray).cell]
  simpa using hu
theorem Try.info_ver : (Try.prog.info? 79).map (fun i => (i.zero, i.size, i.bytes)) = some (some (.agg #[.int .i64 0, .string ⟨#[]⟩]), 2, 24) := by kernel_rfl
theorem RDsk.pickn {w : World} {g : Nat} {vl vw vp : Value} {r : Rf} {S : Nat → Prop} (h : RDsk w g vl vw vp r) (hs : ∀ k, S k ↔ footR g vl vw k) : r.picks ≠ [] → ∀ j, vp.ownBlock = some j → ¬ S j := fun hne j hj hS => by
  obtain ⟨k, cs, e, hk, _⟩ := h.pick.2 (fun e => hne (List.map_eq_nil_iff.1 e))
  rw [e] at hj
  cases hj
  obtain ⟨t, cs', hb, hkd⟩ := h.kind ((hs _).1 hS)
  have ht : t ≠ 3 := by rcases hkd with rfl | rfl | rfl <;> decide
  exact absurd rfl (hk.ne_ hb (Ne.symm ht))
/-- A version more. -/
theorem RDsk.addV {w w9 : World} {g : Nat} {vl vw vp v9 : Value} {r : Rf} {S : Nat → Prop} {n : Nat} {b : List UInt8} {cs : Array Value} (h : RDsk w g vl vw vp r) (hs : ∀ k, S k ↔ footR g vl vw k)
    (hown : w9.ownsRow 0 79 2 v9 (r.wait.length + 1) (cellsV r.wait ++ cellsV [(n, b)])) (hg : ((w.alloc (.cells cs 79))).grownBy w9 vw.ownBlock) (hat : v9.ownBlock = vw.ownBlock ∨ v9.ownBlock = some (w.heap.size + 1)) (dn : Int) :
    WroteR w S g ⟨r.l, r.wait ++ [(n, b)], r.off, r.armed, r.picks, dn⟩ ((w9.setCell ⟨g, 1, none⟩ v9).setCell ⟨g, 5, none⟩ (.int .i64 dn)) ∧ Blk w9 g 57 #[vl, vw, .bool r.off, .int .i64 r.armed, vp, .int .i64 r.done] := by
  have hSg : S g := (hs g).2 (.inl rfl)
  have hgv : some g ≠ vw.ownBlock := fun e => by
    obtain ⟨cs, hk⟩ := own_kind h.wt e.symm
    exact absurd rfl (hk.ne_ h.blk (by decide))
  have hb9 : Blk w9 g 57 #[vl, vw, .bool r.off, .int .i64 r.armed, vp, .int .i64 r.done] := (h.blk.alloc _).grown hg hgv
  have hc0 : Chg (fun k => vw.ownBlock = some k) w w9 := ((Chg.refl (fun k => vw.ownBlock = some k) w).alloc (.cells cs 79)).grown hg (fun k hk _ => hk)
  have hc : Chg (fun k => k = g ∨ vw.ownBlock = some k) w ((w9.setCell ⟨g, 1, none⟩ v9).setCell ⟨g, 5, none⟩ (.int .i64 dn)) := ((hc0.mono (fun _ _ h => .inr h)).at_ (.inl rfl) _).at_ (.inl rfl) _
  have hc2 : Chg (fun k => k = g) w9 ((w9.setCell ⟨g, 1, none⟩ v9).setCell ⟨g, 5, none⟩ (.int .i64 dn)) := ((Chg.refl (fun k => k = g) w9).at_ rfl _).at_ rfl _
  have hn : ∀ k t cs, Blk w k t cs → t = 9 ∨ t = 3 → ¬ (k = g ∨ vw.ownBlock = some k) := fun k t cs hk ht hh => by
    rcases hh with rfl | hh
    · exact absurd rfl (hk.ne_ h.blk (by rcases ht with rfl | rfl <;> decide))
    · obtain ⟨cs', hk'⟩ := own_kind h.wt hh
      exact absurd rfl (hk.ne_ hk' (by rcases ht with rfl | rfl <;> decide))
  have hD : RDsk ((w9.setCell ⟨g, 1, none⟩ v9).setCell ⟨g, 5, none⟩ (.int .i64 dn)) g vl v9 vp ⟨r.l, r.wait ++ [(n, b)], r.off, r.armed, r.picks, dn⟩ :=
    { blk := (hb9.set_ 1 _).set_ 5 _
      row := own_chgs h.row hc fun j hj => by
        obtain ⟨cs, hk⟩ := own_kind h.row hj
        exact hn _ _ _ hk (.inl rfl)
      wt := by
        show World.ownsRow _ _ _ _ _ (r.wait ++ [(n, b)]).length (cellsV (r.wait ++ [(n, b)]))
        rw [cellsV_app, List.length_append]
        exact own_chgs hown hc2 fun j hj e => by
          subst e
          obtain ⟨cs, hk⟩ := own_kind hown hj
          exact absurd rfl (hk.ne_ hb9 (by decide))
      pick := h.pick.chg hc fun k cs hk => hn _ _ _ hk (.inr rfl) }
  refine ⟨⟨footR g vl v9, ⟨_, _, _, hD, fun _ => Iff.rfl⟩, hc.mono (fun k _ hk => ?_), fun k hk => ?_⟩, hb9⟩
  · rcases hk with rfl | hk
    · exact hSg
    · exact (hs k).2 (.inr (.inr hk))
  · rcases hk with rfl | hk | hk
    · exact .inl hSg
    · exact .inl ((hs k).2 (.inr (.inl hk)))
    · rcases hat with e | e
      · exact .inl ((hs k).2 (.inr (.inr (e ▸ hk))))
      · rw [hk] at e
        cases e
        exact .inr (Nat.le_succ _)
theorem WroteR.step {w w1 w' : World} {S : Nat → Prop} {g : Nat} {r : Rf} (hc : Chg S w w1) (h : WroteR w1 S g r w') : WroteR w S g r w' := by
  obtain ⟨S', hd, hc', hs⟩ := h
  exact ⟨S', hd, hc.trans hc', fun k hk => (hs k hk).imp id fun h => Nat.le_trans hc.size h⟩
set_option maxRecDepth 10000 in
set_option maxHeartbeats 4000000 in
theorem RWrite_calls (w : World) (g : Nat) (r : Rf) (S : Nat → Prop) (h : RO w g r S) (n : Int) (b : List UInt8) (hw : r.wait.length ≤ 1000000) (hN : r.l.length ≤ 16384) (hl : r.picks.length ≤ 1000000000) (ha : r.armed ≤ 9223372036854775807) (hb : b.length ≤ 1000000000) :
    Calls Try.prog 36 #[.pointer (some ⟨g, 0, none⟩), .int .i64 n, .string ⟨b.toArray⟩] w fun e w' => e = .returned (.int .i64 (writeR r n b).1) ∧ WroteR w S g (writeR r n b).2 w' := by
  have hW0 := Lib.hid (WroteR.refl h)
  have hI := Lib.hid (RIs_calls w g r S h n)
  have hh0 := Lib.hid h
  obtain ⟨vl, vw, vp, h, hs⟩ := h
  have c2 := h.c2
  have hbs : (⟨b.toArray⟩ : ByteArray).size = b.length := by simp [ByteArray.size]
  cases ho : r.off
  · have hask := askR_is (n := n) ho
    rw [ho] at c2
    cases hi : isR r n
    · rw [hi] at hask hI
      have e : writeR r n b = (1, r) := by unfold writeR; rw [hask]; rfl
      rw [e]
      clear h hs e hask hi ho hh0
      go_enter Try.func36, Try.ntmps36
      go_wp2_with fail
      refine hI.out.mono ?_
      rintro e w1 ⟨rfl, rfl⟩
      go_wp2
      go_ret
      exact ⟨rfl, hW0.out⟩
    · rw [hi] at hask hI
      have hask : askR r n = 0 := hask
      have hk : 0 ≤ n ∧ n < (r.l.length : Int) := by unfold isR at hi; simpa using hi
      obtain ⟨k, rfl⟩ : ∃ k : Nat, n = k := ⟨n.toNat, by omega⟩
      by_cases h5 : b.length = 512
      · have e : writeR r k b = if r.armed = 1 then (6, cutR r r.picks) else (0, ⟨r.l, r.wait ++ [(k, b)], r.off, if 0 < r.armed then r.armed - 1 else r.armed, r.picks, winc r.done⟩) := by
          unfold writeR
          rw [if_neg (by rw [hask]; simp), if_neg (by simpa using h5)]
          rfl
        rw [e]
        have c3 := h.c3
        by_cases ha1 : r.armed = 1
        · rw [if_pos ha1]
          have c4 := h.c4
          have hC := Lib.hid (RCut_calls w g r S hh0.out hw hN vp r.picks h.pick.1 (h.pickn hs) hl)
          rw [ha1] at c3
          clear h hs e hask hi ho hh0 ha1 hk
          go_enter Try.func36, Try.ntmps36
          go_wp2_with fail
          refine hI.out.mono ?_
          rintro e w1 ⟨rfl, rfl⟩
          go_wp2_with fail
          refine hC.out.mono ?_
          rintro e w1 ⟨rfl, hw1⟩
          have hw1 := Lib.hid hw1
          go_wp2
          go_ret
          exact ⟨rfl, hw1.out⟩
        · rw [if_neg ha1]
          obtain ⟨i2, hj, hy0, hy1, hy2⟩ := info_parts Try.info_ver
          by_cases hap : 0 < r.armed
          · have f3 := h.blk.frozen 3
            rw [if_pos hap]
            have hc : Chg (fun k => k = g) w (w.setCell ⟨g, 3, none⟩ (.int .i64 (r.armed - 1))) := (Chg.refl (fun k => k = g) w).at_ rfl _
            have h1 : Hid (RDsk (w.setCell ⟨g, 3, none⟩ (.int .i64 (r.armed - 1))) g vl vw vp ⟨r.l, r.wait, r.off, r.armed - 1, r.picks, r.done⟩) := h.put (r' := ⟨r.l, r.wait, r.off, r.armed - 1, r.picks, r.done⟩) hc (h.blk.set_ 3 _) rfl rfl (h.pick_g hc)
            have hC1 : Hid (Chg S w (w.setCell ⟨g, 3, none⟩ (.int .i64 (r.armed - 1)))) := (Chg.refl S w).at_ ((hs g).2 (.inl rfl)) _
            have hs1 := Lib.hid hs
            have c1 : (w.setCell ⟨g, 3, none⟩ (.int .i64 (r.armed - 1))).cell? ⟨g, 1, none⟩ = some vw := h1.out.c1
            obtain ⟨A, c, rfl⟩ := own_shape h.wt
            generalize hw1 : w.setCell ⟨g, 3, none⟩ (.int .i64 (r.armed - 1)) = w1 at *
            clear h hs e hask hi ho hh0 hk hc hW0
            go_enter Try.func36, Try.ntmps36
            go_wp2_with fail
            refine hI.out.mono ?_
            rintro e w2 ⟨rfl, rfl⟩
            clear hI
            go_wp2_with (at_builtin; refine stop_app rfl ?_)
            have hnews := cell_news w1 79 (cellsV [(k, b)])
            refine Stop.mk (wpList_appK _ rfl rfl (base := 0) (news := cellsV [(k, b)]) (m := 1) Try.underlying55 hj hy0 hy1 hy2 rfl (by decide) (World.ownsRow.alloc h1.out.wt _) rfl rfl (fun _ => ⟨⟨w1.heap.size, 0, none⟩, rfl, hnews⟩) rfl (cellsV_one _) ?_ ?_ (Nat.zero_le _) ?_)
            · show r.wait.length + 1 ≤ maxLen; unfold maxLen; omega
            · show (r.wait.length + 1) * 24 ≤ _; omega
            intro v9 w9 hown hg hat
            obtain ⟨hfin, hb9⟩ := h1.out.addV hs1.out hown hg (by rw [World.size_alloc] at hat; exact hat) (winc r.done)
            have hfin := Lib.hid (WroteR.step hC1.out hfin)
            obtain ⟨A9, c9, rfl⟩ := own_shape hown
            have c1' : w9.cell? ⟨g, 1, none⟩ = some (.slice A r.wait.length c) := hb9.cell 1
            have f1' := hb9.frozen 1
            have c5' : (w9.setCell ⟨g, 1, none⟩ (.slice A9 (r.wait.length + 1) c9)).cell? ⟨g, 5, none⟩ = some (.int .i64 r.done) := (hb9.set_ 1 _).cell 5
            have f5' : (w9.setCell ⟨g, 1, none⟩ (.slice A9 (r.wait.length + 1) c9)).frozen? ⟨g, 5, none⟩ = false := (hb9.set_ 1 _).frozen 5
            clear hown hg hat hb9 hnews h1 hs1 hC1
            unfold winc at *
            go_wp2
            go_ret
            exact ⟨rfl, hfin.out⟩
          · rw [if_neg hap]
            have h1 := Lib.hid h
            have hC1 : Hid (Chg S w w) := Chg.refl S w
            have hs1 := Lib.hid hs
            have c1 := h.c1
            obtain ⟨A, c, rfl⟩ := own_shape h.wt
            clear h hs e hask hi ho hh0 hk hW0
            go_enter Try.func36, Try.ntmps36
            go_wp2_with fail
            refine hI.out.mono ?_
            rintro e w1 ⟨rfl, rfl⟩
            clear hI
            go_wp2_with (at_builtin; refine stop_app rfl ?_)
            have hnews := cell_news w 79 (cellsV [(k, b)])
            refine Stop.mk (wpList_appK _ rfl rfl (base := 0) (news := cellsV [(k, b)]) (m := 1) Try.underlying55 hj hy0 hy1 hy2 rfl (by decide) (World.ownsRow.alloc h1.out.wt _) rfl rfl (fun _ => ⟨⟨w.heap.size, 0, none⟩, rfl, hnews⟩) rfl (cellsV_one _) ?_ ?_ (Nat.zero_le _) ?_)
            · show r.wait.length + 1 ≤ maxLen; unfold maxLen; omega
            · show (r.wait.length + 1) * 24 ≤ _; omega
            intro v9 w9 hown hg hat
            obtain ⟨hfin, hb9⟩ := h1.out.addV hs1.out hown hg (by rw [World.size_alloc] at hat; exact hat) (winc r.done)
            have hfin := Lib.hid (WroteR.step hC1.out hfin)
            obtain ⟨A9, c9, rfl⟩ := own_shape hown
            have c1' : w9.cell? ⟨g, 1, none⟩ = some (.slice A r.wait.length c) := hb9.cell 1
            have f1' := hb9.frozen 1
            have c5' : (w9.setCell ⟨g, 1, none⟩ (.slice A9 (r.wait.length + 1) c9)).cell? ⟨g, 5, none⟩ = some (.int .i64 r.done) := (hb9.set_ 1 _).cell 5
            have f5' : (w9.setCell ⟨g, 1, none⟩ (.slice A9 (r.wait.length + 1) c9)).frozen? ⟨g, 5, none⟩ = false := (hb9.set_ 1 _).frozen 5
            clear hown hg hat hb9 hnews h1 hs1 hC1
            unfold winc at *
            go_wp2
            go_ret
            exact ⟨rfl, hfin.out⟩
      · have hb5 : ((b.length : Int) != 512) = true := by simp; omega
        have e : writeR r k b = (1, r) := by
          unfold writeR
          rw [if_neg (by rw [hask]; simp), if_pos (by simpa using h5)]
        rw [e]
        clear h hs e hask hi ho hh0 h5
        go_enter Try.func36, Try.ntmps36
        go_wp2_with fail
        refine hI.out.mono ?_
        rintro e w1 ⟨rfl, rfl⟩
        go_wp2
        go_ret
        exact ⟨rfl, hW0.out⟩
  · have e : writeR r n b = (6, r) := by unfold writeR askR; rw [if_pos ho]; rfl
    rw [e]
    rw [ho] at c2
    clear h hs e hI hh0 ho
    go_enter Try.func36, Try.ntmps36
    go_wp2
    go_ret
    exact ⟨rfl, hW0.out⟩
def NewR2 (w : World) (n : Int) (e : Ending) (w' : World) : Prop :=
  if n < 1 ∨ 16384 < n then e = .returned (.tuple #[.pointer none, .int .i64 1]) ∧ w = w'
  else ∃ g S, e = .returned (.tuple #[.pointer (some ⟨g, 0, none⟩), .int .i64 0]) ∧ RO w' g (newR n.toNat) S ∧ Below w.heap.size w w' ∧ ∀ k, S k → w.heap.size ≤ k
theorem svs_repl (k : Nat) (b : List UInt8) : svs (List.replicate (k + 1) b) = svs (List.replicate k b) ++ [str b] := by
  unfold svs
  rw [List.replicate_succ', List.map_append]
  rfl
set_option maxRecDepth 10000 in
set_option maxHeartbeats 4000000 in
theorem RNew_calls (w : World) (n : Int) : Calls Try.prog 24 #[.int .i64 n] w (NewR2 w n) := by
  by_cases h1 : n < 1 ∨ 16384 < n
  · have hO : Hid (∀ e w', e = .returned (.tuple #[.pointer none, .int .i64 1]) ∧ w = w' → NewR2 w n e w') := fun e w' h => by unfold NewR2; rw [if_pos h1]; exact h
    rcases (show n < 1 ∨ (¬ n < 1 ∧ 16384 < n) by omega) with h2 | ⟨h2, h3⟩
    · clear h1
      go_enter Try.func24, Try.ntmps24
      go_wp2
      go_ret2
      exact hO.out _ _ ⟨rfl, rfl⟩
    · clear h1
      go_enter Try.func24, Try.ntmps24
      go_wp2
      go_ret2
      exact hO.out _ _ ⟨rfl, rfl⟩
  · have hO : Hid (∀ e w' S, e = .returned (.tuple #[.pointer (some ⟨w.heap.size, 0, none⟩), .int .i64 0]) ∧ RO w' w.heap.size (newR n.toNat) S ∧ Below w.heap.size w w' ∧ (∀ k, S k → w.heap.size ≤ k) → NewR2 w n e w') := fun e w' S h => by unfold NewR2; rw [if_neg h1]; exact ⟨_, S, h⟩
    obtain ⟨N, rfl⟩ : ∃ N : Nat, n = N := ⟨n.toNat, by omega⟩
    rw [Int.toNat_natCast] at hO
    have hN1 : 1 ≤ N := by omega
    have hN2 : N ≤ 16384 := by omega
    clear h1
    obtain ⟨i0, hi, hz0, hz1, hz2⟩ := info_parts Try.info_u8
    obtain ⟨i2, hj, hy0, hy1, hy2⟩ := info_parts Try.info_str
    obtain ⟨zs, hzs⟩ : ∃ zs, List.replicate 512 (Value.int .u8 0) = zs := ⟨_, rfl⟩
    have hmk := run_mkr (P := Try.prog) 22 5 i0 (.int .u8 0) Try.underlying22 hi hz0 rfl hz1 512 (by rw [hz2]; omega) (by omega)
    rw [hzs] at hmk
    obtain ⟨zb, hzb⟩ : ∃ zb, Hid (zb = zblk) := ⟨_, rfl⟩
    have hzb1 : zs = bvs zb := by rw [← hzs, hzb.out, zblk_bvs]
    have hzl : zs.length = 512 := by rw [← hzs]; simp
    have hcv : ∀ W : World, (convert 22 9 (.slice (some ⟨W.heap.size, 0, none⟩) 512 512)).run Try.prog (W.alloc (.cells zs.toArray 5)) = .ok (.string ⟨zb.toArray⟩) (W.alloc (.cells zs.toArray 5)) := fun W =>
      run_str (P := Try.prog) _ 22 9 5 _ _ Try.underlying22 Try.underlying5 Try.underlying9 (by rw [← hzb1]; exact rd_new W zs 5 512 hzl.symm)
    obtain ⟨w1, hw1⟩ : ∃ w1, w.alloc (.cells #[.slice none 0 0, .slice none 0 0, .bool false, .int .i64 0, .slice none 0 0, .int .i64 0] 57) = w1 := ⟨_, rfl⟩
    obtain ⟨w2, hw2⟩ : ∃ w2, w1.alloc (.cells zs.toArray 5) = w2 := ⟨_, rfl⟩
    have hmk1 : (Instr.makeSlice 22 (.int .i64 512) (.int .i64 512)).run Try.prog w1 = .ok (.slice (some ⟨w1.heap.size, 0, none⟩) 512 512) (w1.alloc (.cells zs.toArray 5)) := hmk w1
    have hcv1 := hcv w1
    rw [hw2] at hmk1 hcv1
    have hz : Hid (RDsk w2 w.heap.size (.slice none 0 0) (.slice none 0 0) (.slice none 0 0) ⟨List.replicate 0 zb, [], false, 0, [], 0⟩) := by
      have hb : Blk w2 w.heap.size 57 #[.slice none 0 0, .slice none 0 0, .bool false, .int .i64 0, .slice none 0 0, .int .i64 0] := by rw [← hw2, ← hw1]; exact (Blk.new w _ _).alloc _
      exact ⟨hb, World.ownsRow_nil _ _ _ _, World.ownsRow_nil _ _ _ _, RdT.nil _ _⟩
    have hB0 : Hid (Below w.heap.size w w2) := by
      rw [← hw2, ← hw1]
      exact ((Below.refl _ _).alloc (Nat.le_refl _) _).alloc (by simp) _
    have hsz1 : w1.heap.size = w.heap.size + 1 := by rw [← hw1]; simp
    obtain ⟨g1, hg1⟩ : ∃ g1, Hid (g1 = w1.heap.size) := ⟨_, rfl⟩
    rw [← hg1.out] at hmk1 hcv1
    clear hmk hcv hzs hw2 hzb1 hzl hsz1 hi hz0 hz1 hz2
    go_enter Try.func24, Try.ntmps24
    go_wp2
    clear hcv1 hmk1 hg1 hw1
    go_loopw [6] (fun i wr => ∃ (k : Nat) (A : Option Addr) (c : Nat), k ≤ N ∧ i = .int .i64 (k : Int) ∧ Hid (RDsk wr w.heap.size (.slice A k c) (.slice none 0 0) (.slice none 0 0) ⟨List.replicate k zb, [], false, 0, [], 0⟩) ∧ Hid (Below w.heap.size w wr) ∧ Hid (∀ j, (Value.slice A k c).ownBlock = some j → w.heap.size ≤ j)) (fun i _ => N - (RowKit.intOf i).toNat)
    case atStart => exact ⟨0, none, 0, Nat.zero_le _, rfl, hz, hB0, fun j hj => by simp [Value.ownBlock] at hj⟩
    case round =>
      obtain ⟨k, A, c, hk, rfl, hD, hB, hn⟩ := hrel
      clear hz hB0
      by_cases hlt : k < N
      · have c0 := hD.out.c0
        have hrow : wr.ownsRow 0 9 1 (.slice A k c) k (svs (List.replicate k zb)) := by
          have h1 := hD.out.row
          have e : (⟨List.replicate k zb, [], false, 0, [], 0⟩ : Rf).l.length = k := by show (List.replicate k zb).length = k; simp
          rw [e] at h1
          exact h1
        have hrow1 := Lib.hid (World.ownsRow.alloc hrow (.cells #[.string ⟨zb.toArray⟩] 9))
        have hrd := Lib.hid (show Rd (wr.alloc (.cells #[.string ⟨zb.toArray⟩] 9)) (.slice (some ⟨wr.heap.size, 0, none⟩) 1 1) [.string ⟨zb.toArray⟩] from rd_new wr [.string ⟨zb.toArray⟩] 9 1 rfl)
        have hgv : some w.heap.size ≠ (Value.slice A k c).ownBlock := fun e => by
          obtain ⟨cs, hk⟩ := own_kind hrow e.symm
          exact absurd rfl (hk.ne_ hD.out.blk (by decide))
        have hgv := Lib.hid hgv
        clear hrow
        go_wp2_with (at_builtin; refine stop_app rfl ?_)
        refine Stop.mk (wpList_app _ rfl rfl (us := [.string ⟨zb.toArray⟩]) (base := 0) Try.underlying54 hj hy0 hy1 hy2 rfl hrow1.out rfl hrd.out rfl (by intro u hu; simp at hu; subst hu; rfl) ?_ ?_ (Nat.zero_le _) ?_)
        · unfold maxLen; simp only [List.length_cons, List.length_nil]; omega
        · simp only [List.length_cons, List.length_nil]; omega
        intro v9 w9 hown hg hat
        have hb9 : Blk w9 w.heap.size 57 #[.slice A k c, .slice none 0 0, .bool false, .int .i64 0, .slice none 0 0, .int .i64 0] := (hD.out.blk.alloc _).grown hg hgv.out
        have hown : w9.ownsRow 0 9 1 v9 (k + 1) (svs (List.replicate (k + 1) zb)) := by
          rw [svs_repl]
          exact hown
        obtain ⟨A9, c9, rfl⟩ := own_shape hown
        have hszB := hB.out.size
        have hB9 := (hB.out.alloc hszB (.cells #[.string ⟨zb.toArray⟩] 9)).grown hg (by rw [World.size_alloc]; omega) (fun j hj => hn.out j hj)
        have hB10 := Lib.hid (hB9.setCell (p := ⟨w.heap.size, 0, none⟩) (Nat.le_refl _) (.slice A9 (k + 1) c9))
        have hD10 : Hid (RDsk (w9.setCell ⟨w.heap.size, 0, none⟩ (.slice A9 (k + 1) c9)) w.heap.size (.slice A9 (k + 1) c9) (.slice none 0 0) (.slice none 0 0) ⟨List.replicate (k + 1) zb, [], false, 0, [], 0⟩) := by
          refine ⟨hb9.set_ 0 _, ?_, World.ownsRow_nil _ _ _ _, RdT.nil _ _⟩
          show World.ownsRow _ _ _ _ _ (List.replicate (k + 1) zb).length _
          rw [List.length_replicate]
          exact own_chgs hown (chg_set ⟨w.heap.size, 0, none⟩ _) fun j hj e => by
            have e : j = w.heap.size := e
            subst e
            obtain ⟨cs, hk⟩ := own_kind hown hj
            exact absurd rfl (hk.ne_ hb9 (by decide))
        have hn9 : Hid (∀ j, (Value.slice A9 (k + 1) c9).ownBlock = some j → w.heap.size ≤ j) := fun j hj => by
          rcases hat with e | e
          · exact hn.out j (e ▸ hj)
          · rw [hj] at e
            injection e with e
            rw [World.size_alloc] at e
            omega
        have c0' : w9.cell? ⟨w.heap.size, 0, none⟩ = some (.slice A k c) := hb9.cell 0
        have f0' := hb9.frozen 0
        clear hown hg hat hb9 hB9 hrow1 hrd hgv hD hB hn c0 hszB
        go_wp2
        go_roundw
        case rel => exact ⟨k + 1, A9, c9, by omega, by go_num, hD10, hB10, hn9⟩
        case measure => simp [RowKit.intOf]; omega
      · obtain rfl : k = N := by omega
        have hf := hO.out _ wr (footR w.heap.size (.slice A k c) (.slice none 0 0)) ⟨rfl, ⟨_, _, _, by rw [hzb.out] at hD; exact hD.out, fun _ => Iff.rfl⟩, hB.out, fun j hj => by
          rcases hj with rfl | hj | hj
          · exact Nat.le_refl _
          · exact hn.out j hj
          · simp [Value.ownBlock] at hj⟩
        have hf := Lib.hid hf
        clear hO hD hB hn
        go_wp2
        go_ret2
        exact hf.out
end Go.Proofs.Ytjldjfipacagdaa
