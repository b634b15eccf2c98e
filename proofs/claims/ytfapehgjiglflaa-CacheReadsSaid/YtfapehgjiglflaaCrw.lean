/- The walk of CacheReads. -/
import Derived.Test.YtfapehgjiglflaaCrp
import Derived.Test.YtfapehgjiglflaaCac
namespace Go.Proofs.Ytfapehgjiglflaa
open Go.RowKit
/-- A caller's own block turns. -/
theorem CS.putFar {w0 w : World} {gc g N : Nat} {c : Ck} {d : Dk} (h : CS w0 w gc g N c d) {b t : Nat} {cs : Array Value} (hb : Blk w b t cs) (h1 : ¬ (kindK t ∨ t = 74 ∨ t = 31)) (h2 : t ≠ 5) (h3 : t ≠ 3) (hw : w0.heap.size ≤ b) (i : Nat) (u : Value) : CS w0 (w.setCell ⟨b, i, none⟩ u) gc g N c d := by
  obtain ⟨mb, ns, S, hk, hB, hS⟩ := h
  have hc : Chg (fun j => j = b) w (w.setCell ⟨b, i, none⟩ u) := chg_set ⟨b, i, none⟩ u
  refine ⟨mb, ns, S, hk.chg hc (fun j hj e => ?_) (fun j hj e => ?_) (fun j cs' hj e => ?_) (fun j cs' hj e => ?_), hB.trans (hc.below hB.size (fun j e => e ▸ hw)), hS⟩
  · subst e
    rcases hk.dk.kind hj hb with e | e
    · exact h1 (.inr (.inl e))
    · exact h1 (.inr (.inr e))
  · subst e
    exact hk.notk hb (fun hk => h1 (.inl hk)) hj
  · subst e
    exact absurd rfl (hj.ne_ hb (fun e => h2 e.symm))
  · subst e
    exact absurd rfl (hj.ne_ hb (fun e => h3 e.symm))
theorem CS.flushK {w0 w : World} {gc g N : Nat} {c : Ck} {d : Dk} (h : CS w0 w gc g N c d) (hN : N ≤ 1000) (hc : Cok N c d) (hwt : waitP d ≤ 100000) (ho : d.off = false) (ha : ¬ 0 < d.arm) :
    Calls Try.prog 18 #[.pointer (some ⟨gc, 0, none⟩)] w fun e w' => e = .returned (.int .i64 0) ∧ CS w0 w' gc g N (flushC c N) (flushD c d N) ∧ Keep w w' := by
  obtain ⟨mb, ns, S, hk, hB, hS⟩ := h
  refine (Flush_calls w hk hN hc.dk hwt (CS.h512 hk hc) ho ha).mono ?_
  rintro e w' ⟨rfl, ns', hto⟩
  exact ⟨rfl, CS.to hB hS hto, hto.keep hk⟩
theorem CS.read {w0 w : World} {gc g N : Nat} {c : Ck} {d : Dk} (h : CS w0 w gc g N c d) (n : Int) (hl : d.l.length ≤ 16384) (hv : ∀ vs ∈ d.wt, vs.length ≤ 1000000000) :
    Calls Try.prog 23 #[.pointer (some ⟨g, 0, none⟩), .int .i64 n] w (ReadOut w d n) := by
  obtain ⟨mb, ns, S, hk, hB, hS⟩ := h
  exact Read_callsF w g d _ hk.dk n hl hv
theorem CS.waiting {w0 w : World} {gc g N : Nat} {c : Ck} {d : Dk} (h : CS w0 w gc g N c d) (hv : waitP d ≤ 1000000000000) :
    Calls Try.prog 24 #[.pointer (some ⟨g, 0, none⟩)] w fun e w' => e = .returned (.int .i64 (waitP d)) ∧ Below w.heap.size w w' := by
  obtain ⟨mb, ns, S, hk, hB, hS⟩ := h
  exact Waiting_callsF w g d _ hk.dk hv
theorem FullV (w : World) (x : Value) (l : List UInt8) (hx : Rd w x (bvs l)) (hl : l.length ≤ 512) : Calls Try.prog 17 #[x] w (fun e w' => ∃ A c, e = .returned (.slice A 512 c) ∧ Own8 w' (.slice A 512 c) (fullP l) ∧ Below w.heap.size w w') := by
  refine (Full_calls w x l hx (by omega)).mono ?_
  rintro e w' ⟨r, rfl, ho, hB, _⟩
  obtain ⟨A, c, e⟩ := ho.shape
  rw [fullP_len] at e
  subst e
  exact ⟨A, c, rfl, ho, hB⟩
theorem RInv.p5w {size M : Nat} {c : Ck} {d : Dk} {P : List (List UInt8)} (h : RInv size M c d P) {m : Nat} (hm : m < 6) : (P.getD m []).length = 512 := h.p5 m hm

theorem RInv.mono {size M M' : Nat} {c : Ck} {d : Dk} {P : List (List UInt8)} (h : RInv size M c d P) (hm : M ≤ M') : RInv size M' c d P := ⟨h.sz, h.nd, h.len, h.pin, h.lo, h.b512, h.dl, h.wl, h.of, h.ar, h.pk, Nat.le_trans h.wt hm, h.vw, h.dk, h.pl, h.p5⟩
theorem CS.drewH {w0 w : World} {gc g N n : Nat} {c : Ck} {d : Dk} (h : Hid (CS w0 w gc g N c d)) : Hid (CS w0 (w.drewN n) gc g N c d) := h.out.go (below_drewN (Below.refl _ _) n)
theorem Blk.drewH {w : World} {b t n : Nat} {cs : Array Value} (h : Hid (Blk w b t cs)) : Hid (Blk (w.drewN n) b t cs) := h.out
def PZ (i : Nat) : List (List UInt8) := (List.range 6).map fun n => if n < i then zblk else []
theorem PZ_set {i : Nat} (h : i < 6) : (PZ i).set i zblk = PZ (i + 1) := by
  apply List.ext_getElem?
  intro n
  rw [List.getElem?_set]
  unfold PZ
  rw [List.getElem?_map, List.getElem?_map, List.length_map, List.length_range]
  by_cases hn : n < 6
  · rw [List.getElem?_range hn]
    by_cases e : i = n
    · subst e
      rw [if_pos rfl, if_pos h]
      simp
    · rw [if_neg e]
      by_cases e2 : n < i
      · simp [e2, show n < i + 1 by omega]
      · simp [e2, show ¬ (n < i + 1) by omega]
  · rw [List.getElem?_eq_none (by simpa using hn)]
    by_cases e : i = n
    · omega
    · rw [if_neg e]
      rfl
theorem PZ_6 : PZ 6 = List.replicate 6 zblk := by
  apply List.ext_getElem?
  intro n
  unfold PZ
  rw [List.getElem?_map, List.getElem?_replicate]
  by_cases hn : n < 6
  · rw [List.getElem?_range hn, if_pos hn]; simp [hn]
  · rw [List.getElem?_eq_none (by simpa using hn), if_neg hn]; rfl
set_option maxRecDepth 100000 in
set_option maxHeartbeats 16000000 in
theorem CacheReads_calls (w : World) {n0 : Int} {x1 : Value} {ys1 : List ActV} (ww0 : (Lit.int .i64 n0).wf = true) (xx1 : RdA w x1 ys1) (ll1 : ys1.length ≤ 9223372036854775807) :
    Calls Try.prog 7 #[.int .i64 n0, x1] w fun e w' => e = .returned (.bool true) ∧ Below w.heap.size w w' := by
  obtain ⟨n1, n2⟩ := wf64K ww0
  obtain ⟨A1, c1, rfl⟩ := xx1.shape
  have hx1 := Lib.hid xx1
  clear xx1 ww0
  have hFw := Lib.hid (fun W (hB : Below w.heap.size w W) => Few_calls W _ ys1 (hx1.out.below hB) ll1)
  cases hfw : fewB ys1 with
  | false =>
    rw [hfw] at hFw
    go_enter Try.func7, Try.ntmps7
    go_wp2_with fail
    refine (known_calls w).mono ?_
    rintro e w1 ⟨rfl, hB1⟩
    have hF := Lib.hid (hFw.out w1 hB1)
    go_wp2_with fail
    refine hF.out.mono ?_
    rintro e w2 ⟨rfl, rfl⟩
    go_wp2
    go_ret
    exact ⟨rfl, hB1⟩
  | true =>
  rw [hfw] at hFw
  by_cases hg1 : n0 < 1
  · go_enter Try.func7, Try.ntmps7
    go_wp2_with fail
    refine (known_calls w).mono ?_
    rintro e w1 ⟨rfl, hB1⟩
    have hF := Lib.hid (hFw.out w1 hB1)
    go_wp2_with fail
    refine hF.out.mono ?_
    rintro e w2 ⟨rfl, rfl⟩
    go_wp2
    go_ret
    exact ⟨rfl, hB1⟩
  by_cases hg2 : 100 < n0
  · go_enter Try.func7, Try.ntmps7
    go_wp2_with fail
    refine (known_calls w).mono ?_
    rintro e w1 ⟨rfl, hB1⟩
    have hF := Lib.hid (hFw.out w1 hB1)
    go_wp2_with fail
    refine hF.out.mono ?_
    rintro e w2 ⟨rfl, rfl⟩
    go_wp2
    go_ret
    exact ⟨rfl, hB1⟩
  obtain ⟨sz, rfl⟩ : ∃ k : Nat, n0 = k := ⟨n0.toNat, by omega⟩
  have hs1 : 1 ≤ sz := by omega
  have hs2 : sz ≤ 100 := by omega
  have hL : ys1.length ≤ 150 := fewB_len hfw
  have hat : Hid (∀ (W : World) (hB : Below w.heap.size w W) k (hk : k < ys1.length), ∃ ad, A1 = some ad ∧ W.cell? (ad.add (k * 4)) = some (.int .i64 ys1[k].op) ∧ W.cell? ⟨(ad.add (k * 4)).block, (ad.add (k * 4)).off + 1, none⟩ = some (.int .i64 ys1[k].n) ∧
        W.cell? ⟨(ad.add (k * 4)).block, (ad.add (k * 4)).off + 2, none⟩ = some ys1[k].bv ∧ Rd W ys1[k].bv (bvs ys1[k].b) ∧ ys1[k].b.length ≤ 512) := fun W hB k hk => by
    obtain ⟨ad, e, d0, d1, d2, d3⟩ := (hx1.out.below hB).at_ hk
    exact ⟨ad, e, d0, d1, d2, ((hx1.out.below hB).2 _ (List.getElem_mem hk)).1, (fewB_at hfw hk).1⟩
  clear hx1 n1 n2 hg1 hg2 hfw
  go_enter Try.func7, Try.ntmps7
  go_wp2_with fail
  refine (known_calls w).mono ?_
  rintro e w1 ⟨rfl, hB1⟩
  have hF := Lib.hid (hFw.out w1 hB1)
  clear hFw
  go_wp2_with fail
  refine hF.out.mono ?_
  rintro e w1' ⟨rfl, rfl⟩
  clear hF
  go_wp2_with fail
  refine (NewB_calls w1 6 (by omega) (by omega)).mono ?_
  rintro e w2 ⟨g, S, rfl, hdk, hb2, hS⟩
  have hN := Lib.hid (NewC_calls (N := 6) w w2 hdk (hB1.trans (hb2.mono hB1.size)) (fun j hj => Nat.le_trans hB1.size (hS j hj)) (sz : Int) (by omega) (by omega))
  clear hdk hb2 hS
  go_wp2_with fail
  refine hN.out.mono ?_
  rintro e w3 ⟨gc, rfl, hc0⟩
  have hc0 : CS w w3 gc g 6 (newC sz) (dN 6) := hc0
  have hz : sv (PZ 0) = #[.string ⟨#[]⟩, .string ⟨#[]⟩, .string ⟨#[]⟩, .string ⟨#[]⟩, .string ⟨#[]⟩, .string ⟨#[]⟩] := by kernel_rfl
  have hb0 : Blk (w3.alloc (.cells #[.string ⟨#[]⟩, .string ⟨#[]⟩, .string ⟨#[]⟩, .string ⟨#[]⟩, .string ⟨#[]⟩, .string ⟨#[]⟩] 48)) w3.heap.size 48 (sv (PZ 0)) := by rw [hz]; exact Blk.new _ _ _
  have hc1 := Lib.hid (hc0.go (alloc_belowK w3 (.cells #[.string ⟨#[]⟩, .string ⟨#[]⟩, .string ⟨#[]⟩, .string ⟨#[]⟩, .string ⟨#[]⟩, .string ⟨#[]⟩] 48)))
  have hbw : w.heap.size ≤ w3.heap.size := hc0.bel.size
  have hb0 := Lib.hid hb0
  have hr0 : Hid (RInv sz 0 (newC sz) (dN 6) (List.replicate 6 zblk)) := RInv.start
  clear hz hN hB1 hc0
  obtain ⟨L, hLL⟩ : ∃ L, Hid (L = ys1.length) := ⟨_, rfl⟩
  rw [← hLL.out] at hL ⊢
  go_wp2
  generalize w3.heap.size = b at *
  go_loopw [10] (fun iv wr => ∃ (k : Nat), k ≤ 6 ∧ iv = .int .i64 (k : Int) ∧ Hid (CS w wr gc g 6 (newC sz) (dN 6)) ∧ Hid (Blk wr b 48 (sv (PZ k)))) (fun iv _ => 6 - (RowKit.intOf iv).toNat)
  case atStart => exact ⟨0, by omega, rfl, hc1, hb0⟩
  case round =>
    obtain ⟨k, hk, rfl, hcs, hbl⟩ := hrel
    clear hc1 hb0
    by_cases hlt : k < 6
    · have hst := Lib.hid ((sv_set (PZ k) k zblk).trans (by rw [PZ_set hlt]))
      clear hat hr0
      go_wp2_with fail
      refine (Full0 wr).mono ?_
      rintro e w5 ⟨fA, fc, rfl, hfo, hfb⟩
      have hc5 := hcs.out.go hfb
      have hb5 : Blk w5 b 48 (sv (PZ k)) := (hfb.block _ hbl.out.lt).trans hbl.out
      have s1 := run_str (P := Try.prog) w5 31 9 5 _ _ Try.underlying31 Try.underlying5 Try.underlying9 (Rd.of_own hfo)
      unfold str at s1
      have fz := hb5.frozen k
      have hb6 : Hid (Blk (w5.setCell ⟨b, k, none⟩ (.string ⟨zblk.toArray⟩)) b 48 (sv (PZ (k + 1)))) := by
        have := hb5.set_ k (str zblk)
        rw [hst.out] at this
        exact this
      have hc6 := Lib.hid (CS.putFar hc5 hb5 (by unfold kindK; decide) (by decide) (by decide) hbw k (.string ⟨zblk.toArray⟩))
      have z1 : ∃ u, w5.cell? ⟨b, k, none⟩ = some u := by
        rw [hb5.cell, sv_at (PZ k) (by unfold PZ; simpa using hlt)]
        exact ⟨_, rfl⟩
      obtain ⟨u0, z1⟩ := z1
      clear hc5 hb5 hbl hcs hst hfo hfb
      generalize zblk = Z at *
      go_wp2
      go_roundw
      case rel => exact ⟨k + 1, by omega, by go_num, hc6, hb6⟩
      case measure => simp [RowKit.intOf]; omega
    · obtain rfl : k = 6 := by omega
      rw [PZ_6] at hbl
      rw [show ((6 : Nat) : Int) = 6 from rfl]
      go_wp2
      go_loopw [11, 12, 13, 14] (fun iv _ _ _ wr => ∃ (k : Nat) (c : Ck) (d : Dk) (P : List (List UInt8)), k ≤ L ∧ iv = .int .i64 (k : Int) ∧ Hid (CS w wr gc g 6 c d) ∧ Hid (RInv sz (2 * k) c d P) ∧ Hid (Blk wr b 48 (sv P))) (fun iv _ _ _ _ => L - (RowKit.intOf iv).toNat)
      case atStart => exact ⟨0, _, _, _, Nat.zero_le _, rfl, hcs, hr0, hbl⟩
      case round =>
        obtain ⟨k, c, d, P, hk, rfl, hcs, hri, hbl⟩ := hrel
        clear hr0
        by_cases hlt2 : k < L
        · have hkL : k < ys1.length := by rw [← hLL.out]; exact hlt2
          have hat1 := Lib.hid (fun (W : World) (hB : Below w.heap.size w W) => hat.out W hB k hkL)
          obtain ⟨ad, rfl, d0, d1, d2, hrd, h512⟩ := hat.out wr hcs.out.bel k hkL
          have hatd : Hid (∀ (W : World) (hB : Below w.heap.size w W), W.cell? (ad.add (k * 4)) = some (.int .i64 ys1[k].op) ∧ W.cell? ⟨(ad.add (k * 4)).block, (ad.add (k * 4)).off + 1, none⟩ = some (.int .i64 ys1[k].n) ∧
        W.cell? ⟨(ad.add (k * 4)).block, (ad.add (k * 4)).off + 2, none⟩ = some ys1[k].bv ∧ Rd W ys1[k].bv (bvs ys1[k].b)) := fun W hB => by
            obtain ⟨ad', e, h0, h1, h2, h3, _⟩ := hat1.out W hB
            injection e with e
            rw [e]
            exact ⟨h0, h1, h2, h3⟩
          clear hat1
          obtain ⟨xA, xc, hxv⟩ := hrd.shape8
          have hFV := Lib.hid (fun W (hB : Below w.heap.size w W) => FullV W _ _ (hatd.out W hB).2.2.2 h512)
          rw [hxv] at d2 hFV hatd
          generalize ys1[k].op = op at *
          generalize ys1[k].n = n at *
          obtain ⟨FBk, hFBk⟩ : ∃ FBk, Hid (fullP ys1[k].b = FBk) := ⟨_, Lib.hid rfl⟩
          have hlF : Hid (FBk.length = 512) := by show _ = _; rw [← hFBk.out]; exact fullP_len _
          rw [hFBk.out] at hFV
          clear hrd hxv h512 hFBk
          generalize ys1[k].b.length = bl at *
          by_cases hn0 : n < 0
          · have hr' : Hid (RInv sz (2 * (k + 1)) c d P) := hri.out.mono (by omega)
            clear hri hatd hFV
            go_wp2
            go_roundw
            case rel => exact ⟨k + 1, c, d, P, by omega, by go_num, hcs, hr', hbl⟩
            case measure => simp [RowKit.intOf]; omega
          by_cases hn6 : 6 ≤ n
          · have hr' : Hid (RInv sz (2 * (k + 1)) c d P) := hri.out.mono (by omega)
            clear hri hatd hFV
            go_wp2
            go_roundw
            case rel => exact ⟨k + 1, c, d, P, by omega, by go_num, hcs, hr', hbl⟩
            case measure => simp [RowKit.intOf]; omega
          obtain ⟨nn, rfl⟩ : ∃ nn : Nat, n = nn := ⟨n.toNat, by omega⟩
          have hn6 : nn < 6 := by omega
          by_cases hop : op = 2
          · subst hop
            have hF1 := Lib.hid (hFV.out wr hcs.out.bel)
            have hri2 := Lib.hid (hri.out.put hs1 hn6 hlF.out)
            have hsv := Lib.hid (sv_set P nn FBk)
            have hok := Lib.hid (hri.out.ok (by omega))
            have hP := Lib.hid (fun (w' : World) (h : CS w w' gc g 6 c d) (x : Value) hx => CS.put h (by omega) hok.out (nn : Int) x FBk hx)
            have hpat : Hid (∃ u, (sv P)[nn]? = some u) := ⟨_, sv_at P (by rw [hri.out.pl]; exact hn6)⟩
            generalize putP c d 6 (nn : Int) FBk = o at *
            clear hri hok
            go_wp2_with fail
            refine hF1.out.mono ?_
            rintro e w4 ⟨fA, fc, rfl, hfo, hfb⟩
            have hP4 := Lib.hid (hP.out w4 (hcs.out.go hfb) (.slice fA 512 fc) (RdT.of_own (F := fun _ => True) (t := 5) (base := 0) hfo (fun _ _ => trivial)))
            have hb4 : Hid (Blk w4 b 48 (sv P)) := (hfb.block _ hbl.out.lt).trans hbl.out
            clear hcs hbl hP hfo hfb hF1
            go_wp2_with fail
            refine hP4.out.mono ?_
            rintro e w5 ⟨rfl, hc5, hkp⟩
            have hb5 : Hid (Blk w5 b 48 (sv P)) := hkp.2 _ _ _ hb4.out (by unfold kindK; decide) (by decide) (by decide)
            have hF5 := Lib.hid (hFV.out w5 hc5.bel)
            have hd5 := Lib.hid (hatd.out w5 hc5.bel)
            obtain ⟨e0, e1, e2, _⟩ := hd5.out
            have hc5 := Lib.hid hc5
            clear hP4 hb4 hkp hFV hd5 d0 d1 d2
            go_wp2_with fail
            refine hF5.out.mono ?_
            rintro e w6 ⟨fA2, fc2, rfl, hfo, hfb⟩
            have hc6 := hc5.out.go hfb
            have hb6 : Blk w6 b 48 (sv P) := (hfb.block _ hb5.out.lt).trans hb5.out
            have s1 := run_str (P := Try.prog) w6 31 9 5 _ _ Try.underlying31 Try.underlying5 Try.underlying9 (Rd.of_own hfo)
            unfold str at s1
            have fz := hb6.frozen nn
            obtain ⟨u0, z1⟩ : ∃ u, w6.cell? ⟨b, nn, none⟩ = some u := by
              obtain ⟨u, hu⟩ := hpat.out
              exact ⟨u, by rw [hb6.cell]; exact hu⟩
            have hb7 : Hid (Blk (w6.setCell ⟨b, nn, none⟩ (.string ⟨FBk.toArray⟩)) b 48 (sv (P.set nn FBk))) := by
              have := hb6.set_ nn (str FBk)
              rw [hsv.out] at this
              exact this
            have hc7 := Lib.hid (CS.putFar hc6 hb6 (by unfold kindK; decide) (by decide) (by decide) hbw nn (.string ⟨FBk.toArray⟩))
            generalize P.set nn FBk = PP at *
            clear hc6 hb6 hb5 hc5 hF5 hfo hfb hsv hpat e0 e1 e2
            obtain ⟨g1, g2, hx, hr, hl, hxb⟩ := hri2.out.get hs1 (show nn < 6 by omega)
            have hG := CS.get hc7.out (by omega) (hri2.out.ok (by omega)) (nn : Int) (fun x hx => by rw [g2.b512 x hx]; omega)
            have hlq : ((PP).getD nn []).length = 512 := hri2.out.p5w (show nn < 6 by omega)
            have hcell := Lib.hid (sv_at (PP) (n := nn) (by rw [hri2.out.pl]; omega))
            generalize getP (o.2.1) (o.2.2) 6 (nn : Int) = o2 at *
            have g2 : Hid (RInv sz (2 * (k + 1)) o2.2.1 o2.2.2 (PP)) := g2.mono (by omega)
            generalize hQ : (PP).getD nn [] = Q at *
            clear hQ
            have hG := Lib.hid hG
            clear hri2 hc7
            go_wp2_with fail
            refine hG.out.mono ?_
            rintro e w8 ⟨hc8, hrr, hkp⟩
            obtain ⟨hx', hr', v, hl', rfl, hov⟩ := hrr.ok g1
            have hxx : hx' = hx := by rw [hl] at hl'; injection hl' with h1 _; exact h1.symm
            subst hxx
            rw [hxb] at hov
            obtain ⟨vA, vc, rfl⟩ := hov.shape
            rw [hlq] at hov ⊢
            have hb8 : Blk w8 b 48 (sv (PP)) := hkp.2 _ _ _ hb7.out (by unfold kindK; decide) (by decide) (by decide)
            have hC8 : Hid (Rd w8.drew (.slice vA 512 vc) (bvs Q) ∧ w8.drew.cell? ⟨b, nn, none⟩ = some (str Q)) := ⟨(Rd.of_own hov).below (drew_below w8), by rw [← hcell.out]; exact hb8.cell nn⟩
            have hH := Lib.hid (CS.held (hc8.go (drew_below w8)) (by omega))
            have hb8 := Lib.hid hb8
            have hhl : (heldL o2.2.1 6).length ≤ sz := by rw [held_len g2.out.nd g2.out.lo]; exact g2.out.len
            generalize heldL o2.2.1 6 = hL2 at *
            obtain ⟨q3, hq3⟩ : ∃ q3, Hid (hL2.length = q3) := ⟨_, rfl⟩
            rw [hq3.out] at hhl
            clear hov hrr hkp hl hl' hxb hG g1 hlq hcell hb7 hc8
            go_wp2_with fail
            refine wp_mixs (fun W => Rd W (.slice vA 512 vc) (bvs Q) ∧ W.cell? ⟨b, nn, none⟩ = some (str Q)) [12] (by kernel_rfl) (by kernel_rfl) (by kernel_rfl) (by decide) hC8.out ?_
            iterate 3 ((first | refine mixsq rfl rfl 0 (by decide +kernel) ?_ (fun w' hw' => Or.inl ?_) (fun K hK => ?_) | refine mixsq rfl rfl 1 (by decide +kernel) ?_ (fun w' hw' => Or.inl ?_) (fun K hK => ?_)); rotate_left; (focus (obtain ⟨z1, z2⟩ := hw'; have s1 := run_str (P := Try.prog) w' 31 9 5 _ _ Try.underlying31 Try.underlying5 Try.underlying9 z1; unfold str at s1 z2; go_simp; rfl)); go_simp; refine hK _ ?_; clear hK K)
            iterate 6 ((first | refine mixsq_yes rfl (by first | rfl | kernel_rfl) 0 (by decide +kernel) ?_ (fun w' hw' => Or.inl ?_) (fun K hK => ?_) | refine mixsq_yes rfl (by first | rfl | kernel_rfl) 1 (by decide +kernel) ?_ (fun w' hw' => Or.inl ?_) (fun K hK => ?_)); rotate_left; (focus (obtain ⟨z1, z2⟩ := hw'; have s1 := run_str (P := Try.prog) w' 31 9 5 _ _ Try.underlying31 Try.underlying5 Try.underlying9 z1; unfold str at s1 z2; go_simp; rfl)); go_simp; refine hK _ ?_; clear hK K)
            iterate 2 ((first | refine mixsq rfl rfl 0 (by decide +kernel) ?_ (fun w' hw' => Or.inl ?_) (fun K hK => ?_) | refine mixsq rfl rfl 1 (by decide +kernel) ?_ (fun w' hw' => Or.inl ?_) (fun K hK => ?_)); rotate_left; (focus (obtain ⟨z1, z2⟩ := hw'; have s1 := run_str (P := Try.prog) w' 31 9 5 _ _ Try.underlying31 Try.underlying5 Try.underlying9 z1; unfold str at s1 z2; go_simp; rfl)); go_simp; refine hK _ ?_; clear hK K)
            (first | refine mixsq_yes rfl (by first | rfl | kernel_rfl) 0 (by decide +kernel) ?_ (fun w' hw' => Or.inl ?_) (fun K hK => ?_) | refine mixsq_yes rfl (by first | rfl | kernel_rfl) 1 (by decide +kernel) ?_ (fun w' hw' => Or.inl ?_) (fun K hK => ?_)); rotate_left; (focus (obtain ⟨z1, z2⟩ := hw'; have s1 := run_str (P := Try.prog) w' 31 9 5 _ _ Try.underlying31 Try.underlying5 Try.underlying9 z1; unfold str at s1 z2; go_simp; rfl)); go_simp; refine hK _ ?_; clear hK K
            refine mixsl_yes rfl (by first | rfl | kernel_rfl) (fun K hK => ?_)
            go_simp
            refine hH.out.mono ?_
            rintro e w9 ⟨⟨hv, rfl, hrd, hB9⟩, hc9⟩
            obtain ⟨hA, hcc, rfl⟩ := hrd.shapeN
            rw [hq3.out]
            have hC9 := (⟨hC8.out.1.below hB9, (World.cell?_of_block (hB9.block _ (World.block_lt_of_cell? _ _ hC8.out.2))).trans hC8.out.2⟩ : Rd w9 (.slice vA 512 vc) (bvs Q) ∧ w9.cell? ⟨b, nn, none⟩ = some (str Q))
            have hb9 : Hid (Blk w9 b 48 (sv (PP))) := (hB9.block _ hb8.out.lt).trans hb8.out
            have hc9 := Lib.hid hc9
            refine hK (fun _ => True) _ _ (fun _ => ⟨trivial, fun _ => hC9⟩) ?_
            clear hK K hC9 hB9 hrd
            iterate 3 ((first | refine mixsq_yes rfl (by first | rfl | kernel_rfl) 0 (by decide +kernel) ?_ (fun w' hw' => Or.inl ?_) (fun K hK => ?_) | refine mixsq_yes rfl (by first | rfl | kernel_rfl) 1 (by decide +kernel) ?_ (fun w' hw' => Or.inl ?_) (fun K hK => ?_)); rotate_left; (focus (go_simp; rfl)); go_simp; refine hK _ ?_; clear hK K)
            (first | refine mixsq rfl rfl 0 (by decide +kernel) ?_ (fun w' hw' => Or.inl ?_) (fun K hK => ?_) | refine mixsq rfl rfl 1 (by decide +kernel) ?_ (fun w' hw' => Or.inl ?_) (fun K hK => ?_)); rotate_left; (focus (go_simp; rfl)); go_simp; refine hK _ ?_; clear hK K
            refine mixs_nil ?_
            clear hC8 hH hb8
            go_wp2
            go_roundw
            case rel => exact ⟨k + 1, o2.2.1, o2.2.2, PP, by omega, by go_num, hc9, g2, hb9⟩
            case measure => simp [RowKit.intOf]; omega
          · have hopb : (op == 2) = false := by rw [beq_eq_false_iff_ne]; exact hop
            have hri2 : Hid (RInv sz (2 * k + 1) c d P) := hri.out.mono (by omega)
            clear hri hFV hatd hlF
            obtain ⟨g1, g2, hx, hr, hl, hxb⟩ := hri2.out.get hs1 (show nn < 6 by omega)
            have hG := CS.get hcs.out (by omega) (hri2.out.ok (by omega)) (nn : Int) (fun x hx => by rw [g2.b512 x hx]; omega)
            have hlq : ((P).getD nn []).length = 512 := hri2.out.p5w (show nn < 6 by omega)
            have hcell := Lib.hid (sv_at (P) (n := nn) (by rw [hri2.out.pl]; omega))
            generalize getP (c) (d) 6 (nn : Int) = o2 at *
            have g2 : Hid (RInv sz (2 * (k + 1)) o2.2.1 o2.2.2 (P)) := g2.mono (by omega)
            generalize hQ : (P).getD nn [] = Q at *
            clear hQ
            have hG := Lib.hid hG
            clear hri2 hcs
            go_wp2_with fail
            refine hG.out.mono ?_
            rintro e w8 ⟨hc8, hrr, hkp⟩
            obtain ⟨hx', hr', v, hl', rfl, hov⟩ := hrr.ok g1
            have hxx : hx' = hx := by rw [hl] at hl'; injection hl' with h1 _; exact h1.symm
            subst hxx
            rw [hxb] at hov
            obtain ⟨vA, vc, rfl⟩ := hov.shape
            rw [hlq] at hov ⊢
            have hb8 : Blk w8 b 48 (sv (P)) := hkp.2 _ _ _ hbl.out (by unfold kindK; decide) (by decide) (by decide)
            have hC8 : Hid (Rd w8.drew (.slice vA 512 vc) (bvs Q) ∧ w8.drew.cell? ⟨b, nn, none⟩ = some (str Q)) := ⟨(Rd.of_own hov).below (drew_below w8), by rw [← hcell.out]; exact hb8.cell nn⟩
            have hH := Lib.hid (CS.held (hc8.go (drew_below w8)) (by omega))
            have hb8 := Lib.hid hb8
            have hhl : (heldL o2.2.1 6).length ≤ sz := by rw [held_len g2.out.nd g2.out.lo]; exact g2.out.len
            generalize heldL o2.2.1 6 = hL2 at *
            obtain ⟨q3, hq3⟩ : ∃ q3, Hid (hL2.length = q3) := ⟨_, rfl⟩
            rw [hq3.out] at hhl
            clear hov hrr hkp hl hl' hxb hG g1 hlq hcell hbl hc8
            go_wp2_with fail
            refine wp_mixs (fun W => Rd W (.slice vA 512 vc) (bvs Q) ∧ W.cell? ⟨b, nn, none⟩ = some (str Q)) [12] (by kernel_rfl) (by kernel_rfl) (by kernel_rfl) (by decide) hC8.out ?_
            iterate 3 ((first | refine mixsq rfl rfl 0 (by decide +kernel) ?_ (fun w' hw' => Or.inl ?_) (fun K hK => ?_) | refine mixsq rfl rfl 1 (by decide +kernel) ?_ (fun w' hw' => Or.inl ?_) (fun K hK => ?_)); rotate_left; (focus (obtain ⟨z1, z2⟩ := hw'; have s1 := run_str (P := Try.prog) w' 31 9 5 _ _ Try.underlying31 Try.underlying5 Try.underlying9 z1; unfold str at s1 z2; go_simp; rfl)); go_simp; refine hK _ ?_; clear hK K)
            iterate 6 ((first | refine mixsq_yes rfl (by first | rfl | kernel_rfl) 0 (by decide +kernel) ?_ (fun w' hw' => Or.inl ?_) (fun K hK => ?_) | refine mixsq_yes rfl (by first | rfl | kernel_rfl) 1 (by decide +kernel) ?_ (fun w' hw' => Or.inl ?_) (fun K hK => ?_)); rotate_left; (focus (obtain ⟨z1, z2⟩ := hw'; have s1 := run_str (P := Try.prog) w' 31 9 5 _ _ Try.underlying31 Try.underlying5 Try.underlying9 z1; unfold str at s1 z2; go_simp; rfl)); go_simp; refine hK _ ?_; clear hK K)
            iterate 2 ((first | refine mixsq rfl rfl 0 (by decide +kernel) ?_ (fun w' hw' => Or.inl ?_) (fun K hK => ?_) | refine mixsq rfl rfl 1 (by decide +kernel) ?_ (fun w' hw' => Or.inl ?_) (fun K hK => ?_)); rotate_left; (focus (obtain ⟨z1, z2⟩ := hw'; have s1 := run_str (P := Try.prog) w' 31 9 5 _ _ Try.underlying31 Try.underlying5 Try.underlying9 z1; unfold str at s1 z2; go_simp; rfl)); go_simp; refine hK _ ?_; clear hK K)
            (first | refine mixsq_yes rfl (by first | rfl | kernel_rfl) 0 (by decide +kernel) ?_ (fun w' hw' => Or.inl ?_) (fun K hK => ?_) | refine mixsq_yes rfl (by first | rfl | kernel_rfl) 1 (by decide +kernel) ?_ (fun w' hw' => Or.inl ?_) (fun K hK => ?_)); rotate_left; (focus (obtain ⟨z1, z2⟩ := hw'; have s1 := run_str (P := Try.prog) w' 31 9 5 _ _ Try.underlying31 Try.underlying5 Try.underlying9 z1; unfold str at s1 z2; go_simp; rfl)); go_simp; refine hK _ ?_; clear hK K
            refine mixsl_yes rfl (by first | rfl | kernel_rfl) (fun K hK => ?_)
            go_simp
            refine hH.out.mono ?_
            rintro e w9 ⟨⟨hv, rfl, hrd, hB9⟩, hc9⟩
            obtain ⟨hA, hcc, rfl⟩ := hrd.shapeN
            rw [hq3.out]
            have hC9 := (⟨hC8.out.1.below hB9, (World.cell?_of_block (hB9.block _ (World.block_lt_of_cell? _ _ hC8.out.2))).trans hC8.out.2⟩ : Rd w9 (.slice vA 512 vc) (bvs Q) ∧ w9.cell? ⟨b, nn, none⟩ = some (str Q))
            have hb9 : Hid (Blk w9 b 48 (sv (P))) := (hB9.block _ hb8.out.lt).trans hb8.out
            have hc9 := Lib.hid hc9
            refine hK (fun _ => True) _ _ (fun _ => ⟨trivial, fun _ => hC9⟩) ?_
            clear hK K hC9 hB9 hrd
            iterate 3 ((first | refine mixsq_yes rfl (by first | rfl | kernel_rfl) 0 (by decide +kernel) ?_ (fun w' hw' => Or.inl ?_) (fun K hK => ?_) | refine mixsq_yes rfl (by first | rfl | kernel_rfl) 1 (by decide +kernel) ?_ (fun w' hw' => Or.inl ?_) (fun K hK => ?_)); rotate_left; (focus (go_simp; rfl)); go_simp; refine hK _ ?_; clear hK K)
            (first | refine mixsq rfl rfl 0 (by decide +kernel) ?_ (fun w' hw' => Or.inl ?_) (fun K hK => ?_) | refine mixsq rfl rfl 1 (by decide +kernel) ?_ (fun w' hw' => Or.inl ?_) (fun K hK => ?_)); rotate_left; (focus (go_simp; rfl)); go_simp; refine hK _ ?_; clear hK K
            refine mixs_nil ?_
            clear hC8 hH hb8
            go_wp2
            go_roundw
            case rel => exact ⟨k + 1, o2.2.1, o2.2.2, P, by omega, by go_num, hc9, g2, hb9⟩
            case measure => simp [RowKit.intOf]; omega
        · obtain rfl : k = L := by omega
          obtain ⟨f1, f2, f3, f4, f5, f6, f7⟩ := hri.out.flush
          have hFl := Lib.hid (CS.flushK hcs.out (by omega) (hri.out.ok (by omega)) (by have := hri.out.wt; omega) hri.out.of (by rw [hri.out.ar]; omega))
          have f7 := Lib.hid f7
          have f5 := Lib.hid f5
          have hp5 := Lib.hid hri.out.p5
          have hpl := Lib.hid hri.out.pl
          clear hcs hri hat hLL f4
          generalize flushC c 6 = cf at *
          generalize flushD c d 6 = df at *
          have f1 := Lib.hid f1
          have f2 := Lib.hid f2
          have f3 := Lib.hid f3
          have f6 := Lib.hid f6
          go_wp2_with fail
          refine hFl.out.mono ?_
          rintro e w5 ⟨rfl, hc5, hkp⟩
          have hc5 := Lib.hid hc5
          have hb5 : Hid (Blk w5 b 48 (sv P)) := hkp.2 _ _ _ hbl.out (by unfold kindK; decide) (by decide) (by decide)
          clear hFl hkp hbl
          go_wp2
          go_loopw [16, 17, 18] (fun iv _ _ wr => ∃ (k : Nat), k ≤ 6 ∧ iv = .int .i64 (k : Int) ∧ Hid (CS w wr gc g 6 cf df) ∧ Hid (Blk wr b 48 (sv P))) (fun iv _ _ _ => 6 - (RowKit.intOf iv).toNat)
          case atStart => exact ⟨0, by omega, rfl, hc5, hb5⟩
          case round =>
            obtain ⟨j, hj, rfl, hcs, hbl⟩ := hrel
            clear hc5 hb5
            by_cases hlt3 : j < 6
            · have hR := Lib.hid (CS.read hcs.out (j : Int) (by rw [f1.out]; omega) f5.out)
              have hask : Hid (askP df (j : Int) = 0) := by
                show _ = _
                unfold askP
                rw [if_neg (by simp [f2.out]), if_neg (by rw [f1.out]; omega)]
              have hla := Lib.hid (f7.out j hlt3)
              have hl5 := Lib.hid (hp5.out j hlt3)
              have hat5 := Lib.hid (sv_at P (n := j) (by rw [hpl.out]; exact hlt3))
              generalize P.getD j [] = Q at *
              go_wp2_with fail
              refine hR.out.mono ?_
              rintro e w6 hro
              rcases hro with ⟨_, r, rfl, ho, hB, _⟩ | ⟨hne, _, _⟩
              case inr => exact absurd hask.out hne
              rw [Int.toNat_natCast, hla.out] at ho
              obtain ⟨rA, rc, rfl⟩ := ho.shape
              rw [hl5.out]
              rw [hl5.out] at ho
              have hc6 := Lib.hid (hcs.out.go hB)
              have hb6 : Hid (Blk w6 b 48 (sv P)) := (hB.block _ hbl.out.lt).trans hbl.out
              have hC6 : Hid (Rd w6.drew (.slice rA 512 rc) (bvs Q) ∧ w6.drew.cell? ⟨b, j, none⟩ = some (str Q)) := ⟨(Rd.of_own ho).below (drew_below w6), by rw [← hat5.out]; exact hb6.out.cell j⟩
              have hc6d : Hid (CS w w6.drew gc g 6 cf df) := hc6.out.go (drew_below w6)
              have hb6d : Hid (Blk w6.drew b 48 (sv P)) := hb6.out
              clear ho hB hcs hbl hR hask hla hl5 hat5 hc6 hb6
              go_wp2_with fail
              refine wp_mixs (fun W => Rd W (.slice rA 512 rc) (bvs Q) ∧ W.cell? ⟨b, j, none⟩ = some (str Q)) [] (by kernel_rfl) (by kernel_rfl) (by kernel_rfl) (by decide) hC6.out ?_
              iterate 6 ((refine mixsq rfl rfl 0 (by decide +kernel) ?_ (fun w' hw' => Or.inl ?_) (fun K hK => ?_)); rotate_left; (focus (obtain ⟨z1, z2⟩ := hw'; have s1 := run_str (P := Try.prog) w' 31 9 5 _ _ Try.underlying31 Try.underlying5 Try.underlying9 z1; unfold str at s1 z2; go_simp; rfl)); go_simp; refine hK _ ?_; clear hK K)
              refine mixs_nil ?_
              clear hC6
              go_wp2
              go_roundw
              case rel => exact ⟨j + 1, by omega, by go_num, hc6d, hb6d⟩
              case measure => simp [RowKit.intOf]; omega
            · obtain rfl : j = 6 := by omega
              have hD := CS.dirty hcs.out (by omega)
              rw [f6.out] at hD
              have hD := Lib.hid hD
              clear f5 f7 hp5 hbl
              go_wp2_with fail
              refine hD.out.mono ?_
              rintro e w6 ⟨⟨hv, rfl, hrd, _⟩, hc6⟩
              have hrd : Rd w6 hv [] := hrd
              obtain ⟨hA, hcc, rfl, _, _⟩ := hrd
              have hW := CS.waiting hc6 (by rw [f3.out]; omega)
              rw [f3.out] at hW
              have hW := Lib.hid hW
              have hc6 := Lib.hid hc6
              clear hD hcs
              go_wp2_with fail
              refine hW.out.mono ?_
              rintro e w7 ⟨rfl, hB7⟩
              have hBe := Lib.hid (hc6.out.go hB7).bel
              clear hW hc6 hB7
              go_wp2
              go_ret
              exact ⟨rfl, hBe.out⟩
end Go.Proofs.Ytfapehgjiglflaa
