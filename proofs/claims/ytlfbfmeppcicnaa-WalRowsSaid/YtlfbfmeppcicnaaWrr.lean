/- WalRows, walked. Printed by genwrr.py. -/
import Derived.Test.YtlfbfmeppcicnaaWab
namespace Go.Proofs.Ytlfbfmeppcicnaa
open Go.RowKit
/-- The row us tells F below n. -/
structure AU (us : List (List UInt8)) (F : Nat → List UInt8) (n : Nat) : Prop where
  len : us.length = 70
  at_ : ∀ m, m < n → us[m]? = some (F m)
theorem AU.set_ {us : List (List UInt8)} {F F' : Nat → List UInt8} {n n' k : Nat} (h : AU us F n) (hk : k < 70) {b : List UInt8} (hF : ∀ m, m < n' → (m = k ∧ F' m = b) ∨ (m ≠ k ∧ m < n ∧ F' m = F m)) : AU (us.set k b) F' n' := by
  refine ⟨by rw [List.length_set, h.len], fun m hm => ?_⟩
  rcases hF m hm with ⟨rfl, e⟩ | ⟨e1, e2, e3⟩
  · rw [List.getElem?_set_self (by rw [h.len]; exact hk), e]
  · rw [List.getElem?_set_ne (fun e => e1 e.symm), h.at_ m e2, e3]
theorem AU.congr {us : List (List UInt8)} {F F' : Nat → List UInt8} {n : Nat} (h : AU us F n) (hF : ∀ m, m < n → F' m = F m) : AU us F' n := ⟨h.len, fun m hm => by rw [h.at_ m hm, hF m hm]⟩
theorem AU.eq {us : List (List UInt8)} {F : Nat → List UInt8} (h : AU us F 70) : us = (List.range 70).map F := by
  apply List.ext_getElem?
  intro m
  rcases Nat.lt_or_ge m 70 with h1 | h1
  · rw [h.at_ m h1, List.getElem?_map, List.getElem?_range h1]
    rfl
  · rw [List.getElem?_eq_none (by rw [h.len]; exact h1), List.getElem?_eq_none (by simpa using h1)]
/-- An array of 70 texts. -/
def AB (w : World) (a : Nat) (us : List (List UInt8)) : Prop := Blk w a 50 (us.map str).toArray
theorem AB.cell {w : World} {a : Nat} {us : List (List UInt8)} (h : AB w a us) {n : Nat} (hn : n < us.length) : w.cell? ⟨a, n, none⟩ = some (str (us[n]'hn)) := by
  rw [Blk.cell h n]
  simp [List.getElem?_eq_getElem hn]
theorem AB.set_ {w : World} {a : Nat} {us : List (List UInt8)} (h : AB w a us) (n : Nat) (b : List UInt8) : AB (w.setCell ⟨a, n, none⟩ (str b)) a (us.set n b) := by
  have := Blk.set_ h n (str b)
  unfold AB
  rw [List.map_set]
  simpa using this
theorem AB.rd {w : World} {a : Nat} {us : List (List UInt8)} (h : AB w a us) (hl : us.length = 70) : Rd w (.slice (some ⟨a, 0, none⟩) 70 70) (us.map str) := by
  refine ⟨some ⟨a, 0, none⟩, 70, by simp [hl], by simp [hl], fun _ => ⟨_, rfl, fun j u hu => ?_⟩⟩
  rw [addr_add_at, Nat.zero_add, Blk.cell h j]
  simpa using hu
theorem FullX (w : World) (a b : UInt8) : Calls Try.prog 19 #[.slice (some ⟨w.heap.size, 0, none⟩) 2 2] (w.alloc (.cells #[.int .u8 (a.toNat : Int), .int .u8 (b.toNat : Int)] 5)) (fun e w' => ∃ q c, e = .returned (.slice (some ⟨q, 0, none⟩) 512 c) ∧ Own8 w' (.slice (some ⟨q, 0, none⟩) 512 c) (fullP [a, b]) ∧ Below w.heap.size w w' ∧ w.heap.size ≤ q ∧ q < w'.heap.size) := by
  refine (Full_calls _ _ [a, b] (rd_new w (bvs [a, b]) 5 2 rfl) (by simp)).mono ?_
  rintro e w' ⟨r, rfl, ho, hB, hn⟩
  obtain ⟨q, c, rfl⟩ := own_at ho (by rw [fullP_len]; omega)
  have hown : World.ownsRow w' 0 5 1 (.slice (some ⟨q, 0, none⟩) (fullP [a, b]).length c) (fullP [a, b]).length (bvs (fullP [a, b])) := ho
  have hlt := (World.ownsRow.lt hown q rfl).2
  have hge := hn q rfl
  rw [fullP_len] at ho
  rw [fullP_len]
  exact ⟨q, c, rfl, ho, ((Below.refl w.heap.size w).alloc (Nat.le_refl _) _).trans (hB.mono (by simp)), by simp at hge; omega, hlt⟩
/-- The transaction has written at most j blocks. -/
structure TR (j : Nat) (t : Tk) : Prop where
  ov : t.ov = false
  cnt : (ksW 70 t.m).length ≤ j
theorem TR.new : TR 0 ⟨fun _ => none, false⟩ := ⟨rfl, by simp [ksW]⟩
theorem TR.put {j n : Nat} {t : Tk} {zb : List UInt8} (h : TR j t) (hj : j < 63) (hn : n < 70) (hz : zb.length = 512) :
    (twriteP 70 t (n : Int) zb).1 = 0 ∧ TR (j + 1) (twriteP 70 t (n : Int) zb).2 ∧ ∀ m, (twriteP 70 t (n : Int) zb).2.m m = if m = n then some zb else t.m m := by
  have e : twriteE 70 t (n : Int) zb = 0 := by
    unfold twriteE
    rw [if_neg (by omega), if_neg (by simp [h.ov]), if_neg]
    rintro ⟨_, h2⟩
    have := h.cnt
    omega
  unfold twriteP
  rw [e]
  refine ⟨rfl, ⟨h.ov, ?_⟩, fun m => ?_⟩
  · have e3 : (Int.toNat (n : Int)) = n := Int.toNat_natCast n
    show (ksW 70 fun j => if j = Int.toNat (n : Int) then some zb else t.m j).length ≤ _
    rw [e3]
    exact Nat.le_trans (ksW_put t.m hn zb) (Nat.add_le_add_right h.cnt 1)
  · show (if m = Int.toNat (n : Int) then some zb else t.m m) = _
    rw [Int.toNat_natCast]
theorem tmod70 (n : Nat) : Int.tmod (n : Int) 70 = ((n % 70 : Nat) : Int) := by
  rw [Int.tmod_eq_emod_of_nonneg (by omega)]
  omega
set_option maxRecDepth 100000 in
set_option maxHeartbeats 16000000 in
theorem WalRows_calls (w : World) {x0 x1 : Value} {bs cs : List UInt8} (xx0 : Rd w x0 (bvs bs)) (ll0 : bs.length ≤ 9223372036854775807) 
    (xx1 : Rd w x1 (bvs cs)) (ll1 : cs.length ≤ 9223372036854775807) :
    Calls Try.prog 6 #[x0, x1] w fun e w' => e = .returned (.bool true) ∧ Below w.heap.size w w' := by
  obtain ⟨xA, xc, rfl⟩ := xx0.shape8
  obtain ⟨yA, yc, rfl⟩ := xx1.shape8
  have hx0 := Lib.hid xx0
  have hx1 := Lib.hid xx1
  have hN : Hid (65 < 135 ∧ 135 ≤ 16000) := ⟨by omega, by omega⟩
  obtain ⟨L, hL⟩ : ∃ L, Hid (bs.length = L) := ⟨_, Lib.hid rfl⟩
  obtain ⟨Q, hQ⟩ : ∃ L, Hid (cs.length = L) := ⟨_, Lib.hid rfl⟩
  rw [hL.out] at hx0 ll0 ⊢
  rw [hQ.out] at hx1 ll1 ⊢
  clear xx0 xx1
  go_enter Try.func6, Try.ntmps6
  go_wp2_with fail
  refine (known_calls w).mono ?_
  rintro e w1 ⟨rfl, hB1⟩
  have hB1h := Lib.hid hB1
  clear hB1
  by_cases h30 : 30 < L
  · have h30' : (30 : Int) < (L : Int) := by omega
    go_wp2
    go_ret
    exact ⟨rfl, hB1h.out⟩
  have h30' : ¬ (30 : Int) < (L : Int) := by omega
  by_cases hQL : Q < L
  · have hQL' : (Q : Int) < (L : Int) := by omega
    go_wp2
    go_ret
    exact ⟨rfl, hB1h.out⟩
  have hQL' : ¬ (Q : Int) < (L : Int) := by omega
  go_wp2_with fail
  refine (begun_calls w1).mono ?_
  rintro e w2 ⟨gl, g, d, rfl, hl⟩
  obtain ⟨x0, hx0e⟩ : ∃ x : Lk, Hid (x = freshK d) := ⟨_, Lib.hid rfl⟩
  rw [← hx0e.out] at hl
  obtain ⟨V0, hV0⟩ : ∃ V, Hid (V = fmtV) := ⟨_, Lib.hid rfl⟩
  rw [← hV0.out] at hl
  obtain ⟨zz, hzz⟩ : ∃ z, Hid (zblk = z) := ⟨_, Lib.hid rfl⟩
  have hz5 : Hid (zz.length = 512) := by show _ = _; rw [← hzz.out, zblk_len]
  have hno : Hid (∀ n, datP x0 V0 n = zz) := fun n => by
    rw [hx0e.out, hV0.out, ← hzz.out]
    show fmtV (65 + n) = zblk
    unfold fmtV
    rw [if_neg (by omega)]
  have hop0 : Hid (x0.op = false ∧ x0.pn = 0) := by rw [hx0e.out]; exact ⟨rfl, rfl⟩
  obtain ⟨a, ha⟩ : ∃ a, Hid (w2.heap.size = a) := ⟨_, Lib.hid rfl⟩
  have ha1 : Hid (w1.heap.size ≤ a) := by rw [← ha.out]; exact hl.bel.size
  have hl1 : LC w1 (w2.alloc (.cells Try.zeroCells50 50)) gl g 135 x0 V0 fun k => k = a := hl.more ((Below.refl _ _).alloc (Nat.le_refl _) _) fun k hk => .inr ⟨by rw [hk, ← ha.out]; exact Nat.le_refl _, by rw [hk, ← ha.out]; simp⟩
  have hA1 : AB (w2.alloc (.cells Try.zeroCells50 50)) a (List.replicate 70 []) := by
    have := Blk.new w2 50 Try.zeroCells50
    rw [ha.out] at this
    exact this
  have hl1 := Lib.hid hl1
  have hA1 := Lib.hid hA1
  clear hl
  go_wp2
  rw [ha.out]
  go_loopw [8] (fun iv wr => ∃ (n : Nat) (us : List (List UInt8)), n ≤ 70 ∧ iv = .int .i64 (n : Int) ∧ Hid (LC w1 wr gl g 135 x0 V0 fun k => k = a) ∧ Hid (AB wr a us) ∧ Hid (AU us (fun _ => zz) n)) (fun iv _ => 70 - (RowKit.intOf iv).toNat)
  case atStart => exact ⟨0, _, by omega, rfl, hl1, hA1, ⟨by simp, fun m hm => by omega⟩⟩
  case round =>
    obtain ⟨n, us, hn, rfl, hl, hA, hU⟩ := hrel
    clear hl1 hA1
    by_cases hn70 : n < 70
    · have hn70' : (n : Int) < 70 := by omega
      have hF := Lib.hid (Full0 wr)
      rw [hzz.out] at hF
      go_wp2_with fail
      refine hF.out.mono ?_
      rintro e w6 ⟨fA, fc, rfl, hfo, hfb⟩
      have s1 := run_str (P := Try.prog) w6 32 9 5 _ _ Try.underlying32 Try.underlying5 Try.underlying9 (Rd.of_own hfo)
      unfold str at s1
      have hl := hl.out.below hfb
      have hA6 : AB w6 a us := (Blk.chg (S := fun _ => False) hA.out (Chg.of_below hfb) (fun h => h))
      obtain ⟨u1, c1⟩ : ∃ u, w6.cell? ⟨a, n, none⟩ = some u := ⟨_, hA6.cell (n := n) (by rw [hU.out.len]; exact hn70)⟩
      have f1 := Blk.frozen hA6 n
      have hA7 := hA6.set_ n zz
      have hl7 : LC w1 (w6.setCell ⟨a, n, none⟩ (str zz)) gl g 135 x0 V0 fun k => k = a := hl.own (Z := fun k => k = a) (chg_set ⟨a, n, none⟩ _) (fun k hk => ⟨hk, by rw [hk]; exact ha1.out⟩) (fun k cs hb => hb.ne_ hA6 (by decide)) (fun k cs hb => hb.ne_ hA6 (by decide))
      have hU7 : Hid (AU (us.set n zz) (fun _ => zz) (n + 1)) := hU.out.set_ hn70 fun m hm => by
        by_cases e : m = n
        · exact .inl ⟨e, rfl⟩
        · exact .inr ⟨e, by omega, rfl⟩
      unfold str at hA7 hl7
      have hl7 := Lib.hid hl7
      have hA7 := Lib.hid hA7
      clear hF hfo hfb hl hA hU hA6
      go_frame
      go_wp2
      go_roundw
      case rel => exact ⟨n + 1, _, by omega, by go_num, hl7, hA7, hU7⟩
      case measure => simp [RowKit.intOf]; omega
    · have hn7 : n = 70 := by omega
      have e70 : (n : Int) = 70 := by omega
      rw [hn7] at hU
      rw [e70]
      clear e70 hn70 hn hn7
      go_wp2
      go_loopw [9] (fun iv wr => ∃ (i : Nat) (y : Lk) (V : Nat → List UInt8) (us : List (List UInt8)), i ≤ L ∧ iv = .int .i64 (i : Int) ∧ Hid (LC w1 wr gl g 135 y V fun k => k = a) ∧ Hid (y.op = false ∧ 0 ≤ y.pn ∧ y.pn ≤ (i : Int)) ∧ Hid (AB wr a us) ∧ Hid (AU us (datP y V) 70)) (fun iv _ => L - (RowKit.intOf iv).toNat)
      case atStart => exact ⟨0, x0, V0, us, Nat.zero_le _, rfl, hl, ⟨hop0.out.1, by rw [hop0.out.2]; exact Int.le_refl _, by rw [hop0.out.2]; exact Int.le_refl _⟩, hA, hU.out.congr fun m _ => hno.out m⟩
      case round =>
        obtain ⟨i, y, V, us, hi, rfl, hq, hop, hB, hW⟩ := hrel
        clear hl hA hU hno hop0
        have hBw := Lib.hid (hB1h.out.trans (hq.out.bel.mono hB1h.out.size))
        by_cases hiL : i < L
        · have hiL' : (i : Int) < (L : Int) := by omega
          have hil : i < bs.length := by rw [hL.out]; exact hiL
          have hic : i < cs.length := by rw [hQ.out]; omega
          obtain ⟨p, hp⟩ : ∃ p : Nat, Hid ((bs[i]'hil).toNat = p) := ⟨_, Lib.hid rfl⟩
          obtain ⟨q, hqq⟩ : ∃ p : Nat, Hid ((cs[i]'hic).toNat = p) := ⟨_, Lib.hid rfl⟩
          have hp2 : p < 256 := by rw [← hp.out]; exact UInt8.toNat_lt _
          have hq2 : q < 256 := by rw [← hqq.out]; exact UInt8.toNat_lt _
          obtain ⟨pA, hpA, hpc⟩ : ∃ ad : Addr, xA = some ad ∧ Hid (∀ W, Below w.heap.size w W → W.cell? (ad.add i) = some (.int .u8 (p : Int))) := by
            obtain ⟨ad, c', e, hc⟩ := hx0.out.at8 hil
            injection e with e1 _ _
            refine ⟨ad, e1, fun W hW => ?_⟩
            obtain ⟨ad2, c2, e, hc⟩ := (hx0.out.below hW).at8 hil
            injection e with e3 _ _
            rw [e1] at e3
            cases e3
            rw [hc, ← hp.out]
            rfl
          obtain ⟨qA, hqA, hqc⟩ : ∃ ad : Addr, yA = some ad ∧ Hid (∀ W, Below w.heap.size w W → W.cell? (ad.add i) = some (.int .u8 (q : Int))) := by
            obtain ⟨ad, c', e, hc⟩ := hx1.out.at8 hic
            injection e with e1 _ _
            refine ⟨ad, e1, fun W hW => ?_⟩
            obtain ⟨ad2, c2, e, hc⟩ := (hx1.out.below hW).at8 hic
            injection e with e3 _ _
            rw [e1] at e3
            cases e3
            rw [hc, ← hqq.out]
            rfl
          subst hpA
          subst hqA
          have hBe := Lib.hid (cBegin hq.out hop.out.1)
          go_wp2_with fail
          refine hBe.out.mono ?_
          rintro e w6 ⟨gt, rfl, ht, hk6⟩
          have hA := Lib.hid (show AB w6 a us from KeepX.blk hk6 hB.out rfl)
          obtain ⟨xq, hxq⟩ : ∃ xq : Lk, Hid (xq = ⟨y.d, y.wt, y.pn, true⟩) := ⟨_, Lib.hid rfl⟩
          rw [← hxq.out] at ht
          have hU : Hid (AU us (fun m => ((⟨fun _ => none, false⟩ : Tk).m m).getD (datP xq V m)) 70) := hW.out.congr fun m _ => by rw [hxq.out]; rfl
          have hpn : Hid (0 ≤ xq.pn ∧ xq.pn ≤ (i : Int)) := by rw [hxq.out]; exact hop.out.2
          have hBw6 := hB1h.out.trans (ht.bel.mono hB1h.out.size)
          have c0 := hpc.out w6 hBw6
          have ht := Lib.hid ht
          have hmask : bits .and .i64 (p : Int) 63 = ((p % 64 : Nat) : Int) := (and_mask (p : Int) 6 (by decide)).trans (by omega)
          obtain ⟨k, hk⟩ : ∃ k : Nat, Hid (p % 64 = k) := ⟨_, Lib.hid rfl⟩
          have hk64 : k ≤ 63 := by rw [← hk.out]; omega
          rw [hk.out] at hmask
          have hwr : IntKind.i64.wrap (p : Int) = p := by rw [IntKind.wrap_i64]; omega
          clear hBe hk6 hB hW hq hop hBw6
          go_wp2
          clear c0 hmask hwr
          go_loopw [13] (fun jv wr => ∃ (j : Nat) (t : Tk) (us : List (List UInt8)), j ≤ k ∧ jv = .int .i64 (j : Int) ∧ Hid (LT w1 wr gl g gt 135 xq V t fun k => k = a) ∧ Hid (TR j t) ∧ Hid (AB wr a us) ∧ Hid (AU us (fun m => (t.m m).getD (datP xq V m)) 70)) (fun jv _ => k - (RowKit.intOf jv).toNat)
          case atStart => exact ⟨0, _, us, Nat.zero_le _, rfl, ht, TR.new, hA, hU⟩
          case round =>
            obtain ⟨j, t, us, hj, rfl, hT, hR, hB, hW⟩ := hrel
            clear ht hA hU
            have hBw := Lib.hid (hB1h.out.trans (hT.out.bel.mono hB1h.out.size))
            have c0 := hqc.out _ hBw.out
            have hwr : IntKind.i64.wrap (q : Int) = q := by rw [IntKind.wrap_i64]; omega
            by_cases hjk : j < k
            · have hjk' : (j : Int) < (k : Int) := by omega
              obtain ⟨n, hn⟩ : ∃ n : Nat, Hid ((q + j) % 70 = n) := ⟨_, Lib.hid rfl⟩
              have hn70 : n < 70 := by rw [← hn.out]; omega
              have htm : Int.tmod ((q : Int) + (j : Int)) 70 = (n : Int) := by rw [← hn.out, ← tmod70]; rfl
              have hcv1 : IntKind.u8.wrap ((i : Int) + 1) = (i : Int) + 1 := wrap_u8 (i := i + 1) (by omega)
              have hcv2 : IntKind.u8.wrap (j : Int) = j := wrap_u8 (by omega)
              have hF := FullX wr (UInt8.ofNat (i + 1)) (UInt8.ofNat j)
              rw [u8_nat (by omega), u8_nat (by omega), show (((i + 1 : Nat)) : Int) = (i : Int) + 1 from rfl] at hF
              obtain ⟨B, hBB⟩ : ∃ B, Hid (fullP [UInt8.ofNat (i + 1), UInt8.ofNat j] = B) := ⟨_, Lib.hid rfl⟩
              have hB5 : Hid (B.length = 512) := by show _ = _; rw [← hBB.out, fullP_len]
              rw [hBB.out] at hF
              have hF := Lib.hid hF
              obtain ⟨e1, e2, e3⟩ := hR.out.put (by omega) hn70 hB5.out
              generalize ht2 : twriteP 70 t (n : Int) B = p2 at e1 e2 e3
              obtain ⟨r2, t2⟩ := p2
              dsimp only at e1 e2 e3
              subst e1
              replace ht2 := Lib.hid ht2
              have e2 := Lib.hid e2
              have e3 := Lib.hid e3
              go_wp2_with fail
              refine hF.out.mono ?_
              rintro e w7 ⟨qb, qc, rfl, hfo, hfb, hge, hlt⟩
              have hT7 := hT.out.more (Y := fun k => k = a ∨ k = qb) hfb fun k hk => hk.elim (fun h => .inl h) fun h => .inr ⟨by rw [h]; exact hge, by rw [h]; exact hlt⟩
              have hA7 : AB w7 a us := Blk.chg (S := fun _ => False) hB.out (Chg.of_below hfb) (fun h => h)
              have hWr := cWrite hT7 hN.out (n : Int) (by omega) (by omega) _ B (Rd.of_own hfo) (by rw [hB5.out]; omega)
              rw [show 135 - 65 = 70 from rfl, ht2.out] at hWr
              have hWr := Lib.hid hWr
              have hfo := Lib.hid hfo
              have hA7 := Lib.hid hA7
              clear hF hfb hT hB hT7 hR c0 htm hcv1 hcv2 hwr
              go_wp2_with fail
              refine hWr.out.mono ?_
              rintro e w8 ⟨rfl, hT8, hk8⟩
              have hT8 := hT8.more (Y := fun k => k = a) (Below.refl _ _) fun k hk => .inl (.inl hk)
              have hA8 : AB w8 a us := KeepX.blk hk8 hA7.out (.inl rfl)
              have hfo8 := Own8.keepX hfo.out hB5.out hk8 (.inr rfl)
              have s1 := run_str (P := Try.prog) w8 32 9 5 _ _ Try.underlying32 Try.underlying5 Try.underlying9 (Rd.of_own hfo8)
              obtain ⟨u1, c1⟩ : ∃ u, w8.cell? ⟨a, n, none⟩ = some u := ⟨_, hA8.cell (n := n) (by rw [hW.out.len]; exact hn70)⟩
              have f1 := Blk.frozen hA8 n
              have hA9 := hA8.set_ n B
              have hT9 : LT w1 (w8.setCell ⟨a, n, none⟩ (str B)) gl g gt 135 xq V t2 fun k => k = a := hT8.own (Z := fun k => k = a) (chg_set ⟨a, n, none⟩ _) (fun k hk => ⟨hk, by rw [hk]; exact ha1.out⟩) (fun k cs hb => hb.ne_ hA8 (by decide)) (fun k cs hb => hb.ne_ hA8 (by decide))
              have hU9 : Hid (AU (us.set n B) (fun m => (t2.m m).getD (datP xq V m)) 70) := hW.out.set_ hn70 fun m hm => by
                by_cases e : m = n
                · exact .inl ⟨e, by rw [e3.out, if_pos e]; rfl⟩
                · exact .inr ⟨e, hm, by rw [e3.out, if_neg e]⟩
              unfold str at s1 hA9 hT9
              have hT9 := Lib.hid hT9
              have hA9 := Lib.hid hA9
              clear hWr hfo hA7 hT8 hk8 hA8 hfo8 hW
              go_frame
              go_wp2
              go_roundw
              case rel => exact ⟨j + 1, t2, _, by omega, by go_num, hT9, e2, hA9, hU9⟩
              case measure => simp [RowKit.intOf]; omega
            · obtain rfl : k = j := by omega
              have hCm := Lib.hid (cCommit hT.out hN.out hR.out.ov ⟨hpn.out.1, by have := hpn.out.2; omega⟩)
              clear hT c0
              go_wp2_with fail
              refine hCm.out.mono ?_
              rintro e w7 ⟨rfl, y2, V2, hT, hk7, hdv, hop2, hpn2, _⟩
              have hl := hT.lc
              have hA := Lib.hid (show AB w7 a us from KeepX.blk hk7 hB.out rfl)
              have hU : Hid (AU us (datP y2 V2) 70) := hW.out.congr fun m hm => hdv m (by omega)
              have hop2 : Hid (y2.op = false ∧ 0 ≤ y2.pn ∧ y2.pn ≤ ((i + 1 : Nat) : Int)) := by
                refine ⟨hop2, ?_⟩
                have h1 := hpn.out
                rw [hpn2]
                split <;> omega
              have hBw := Lib.hid (hB1h.out.trans (hl.bel.mono hB1h.out.size))
              have c0 := hqc.out _ hBw.out
              obtain ⟨n, hn⟩ : ∃ n : Nat, Hid (q % 70 = n) := ⟨_, Lib.hid rfl⟩
              have hn70 : n < 70 := by rw [← hn.out]; omega
              have htm : Int.tmod (q : Int) 70 = (n : Int) := by rw [← hn.out, ← tmod70]
              have hRd := cRead hl hN.out (n : Int)
              rw [if_neg (by omega), Int.toNat_natCast, hl.la.val (by omega)] at hRd
              have h5 := Lib.hid (hl.la.d5 (n := n) (by omega))
              have hD1 : us[n]'(by rw [hU.out.len]; exact hn70) = datP y2 V2 n := by
                have := hU.out.at_ n hn70
                rw [List.getElem?_eq_getElem (by rw [hU.out.len]; exact hn70)] at this
                exact Option.some.inj this
              obtain ⟨D, hD⟩ : ∃ D, Hid (datP y2 V2 n = D) := ⟨_, Lib.hid rfl⟩
              rw [hD.out] at hRd h5 hD1
              have hRd := Lib.hid hRd
              have hl := Lib.hid hl
              replace hD1 := Lib.hid hD1
              clear hCm hT hk7 hdv hpn2 hB hW hR
              go_wp2_with fail
              refine hRd.out.mono ?_
              intro e w8 hr
              obtain ⟨bx, cx, rfl, hx, hxb, _, _⟩ := hr.ok rfl h5.out
              have hl := Lib.hid (hl.out.below hxb)
              have hA8 : AB w8 a us := Blk.chg (S := fun _ => False) hA.out (Chg.of_below hxb) (fun h => h)
              have c1 := hA8.cell (n := n) (by rw [hU.out.len]; exact hn70)
              rw [hD1.out] at c1
              have c0 := hqc.out _ (hBw.out.trans (hxb.mono hBw.out.size))
              have s1 := fun n => run_str (P := Try.prog) (w8.drewN n) 32 9 5 _ _ Try.underlying32 Try.underlying5 Try.underlying9 ((Rd.of_own hx).drewN n)
              unfold str at s1 c1
              generalize (⟨D.toArray⟩ : ByteArray) = p3 at *
              have hA8 := Lib.hid hA8
              clear hRd hr hx hxb hA
              go_wp2_with fail
              go_quiet (fail)
              clear s1 c1 c0
              go_wp2
              go_roundw
              case rel => exact ⟨i + 1, y2, V2, us, by omega, by go_num, hl.out.below (below_drewN (Below.refl _ _) _), hop2, Blk.drewN hA8.out _, hU⟩
              case measure => simp [RowKit.intOf]; omega
        · obtain rfl : i = L := by omega
          have hSy := Lib.hid (cSync hq.out hN.out)
          clear hq
          go_wp2_with fail
          refine hSy.out.mono ?_
          rintro e w5 ⟨rfl, d2, V2, ⟨hl, hk5⟩, hv2⟩
          have hA := show AB w5 a us from KeepX.blk hk5 hB.out rfl
          have hus : Hid (∀ d', us = datL 135 (freshK d') V2) := fun d' => by
            rw [AU.eq (hW.out.congr (F' := fun m => V2 (65 + m)) fun m hm => hv2 m (by omega))]
            rfl
          have hPe := Lib.hid (cPending hl)
          have h00 := Lib.hid hl.la.h0
          have hC := Lib.hid (cCut hl.dc (by omega) (.slice none 0 0) [] (Rd.nil _ _ _) (fun h => absurd rfl h) (by simp))
          have hA := Lib.hid hA
          have hlen : Hid (us.length = 70) := hW.out.len
          clear hSy hl hv2 hB hW hk5
          go_wp2_with fail
          refine hPe.out.mono ?_
          rintro e w6 ⟨rfl, rfl⟩
          clear hPe
          go_wp2_with fail
          refine hC.out.mono ?_
          rintro e w6 ⟨rfl, hdo, hk6⟩
          have hOn := Lib.hid (cOn hdo)
          have hA := Lib.hid (show AB w6 a us from KeepX.blk hk6 hA.out rfl)
          clear hC hdo hk6
          go_wp2_with fail
          refine hOn.out.mono ?_
          rintro e w7 ⟨rfl, hdc, hk7⟩
          have hOp := Lib.hid (cOpen hdc hN.out h00.out)
          have hA := Lib.hid (show AB w7 a us from KeepX.blk hk7 hA.out rfl)
          clear hOn hdc hk7
          go_wp2_with fail
          refine hOp.out.mono ?_
          rintro e w8 ⟨gl2, rfl, hlc, hk8⟩
          have hA : AB w8 a us := KeepX.blk hk8 hA.out rfl
          have hAl := all_callsL hlc hN.out (.slice (some ⟨a, 0, none⟩) 70 70) us (hA.rd hlen.out) (by rw [hlen.out]; omega)
          rw [decide_eq_true (hus.out _)] at hAl
          have hAl := Lib.hid hAl
          have hfin := Lib.hid (hB1h.out.trans (hlc.bel.mono hB1h.out.size))
          have hc0 := Blk.cell hA 0
          clear hOp hk8 hlc
          go_wp2_with fail
          refine hAl.out.mono ?_
          rintro e w9 ⟨rfl, hb9⟩
          go_wp2
          go_ret
          exact ⟨rfl, hfin.out.trans (hb9.mono hfin.out.size)⟩
end Go.Proofs.Ytlfbfmeppcicnaa
