/- The walk of CacheOrder. -/
import Derived.Test.YtfapehgjiglflaaCop
namespace Go.Proofs.Ytfapehgjiglflaa
open Go.RowKit
theorem ofInt64_nat (a : Nat) (ha : a < 9223372036854775808) : (BitVec.ofInt 64 (a : Int)).toNat = a := by
  rw [BitVec.ofInt_natCast, BitVec.toNat_ofNat]
  exact Nat.mod_eq_of_lt (by omega)
theorem ofInt64_emod (n : Int) : ((BitVec.ofInt 64 n).toNat : Int) = n % 18446744073709551616 := by
  rw [BitVec.toNat_ofInt]
  omega
theorem and_mask (n : Int) (j : Nat) (hj : j ≤ 32) : bits .and .i64 n ((2 ^ j - 1 : Nat) : Int) = n % ((2 ^ j : Nat) : Int) := by
  have hm : 2 ^ j ≤ 4294967296 := Nat.pow_le_pow_right (by omega) hj
  have hp : 0 < 2 ^ j := Nat.two_pow_pos j
  show IntKind.i64.wrap ((BitVec.ofInt 64 n &&& BitVec.ofInt 64 ((2 ^ j - 1 : Nat) : Int)).toNat : Int) = _
  rw [BitVec.toNat_and, ofInt64_nat _ (by omega), Nat.and_two_pow_sub_one_eq_mod]
  have h1 := ofInt64_emod n
  have h2 : (((BitVec.ofInt 64 n).toNat % 2 ^ j : Nat) : Int) = n % ((2 ^ j : Nat) : Int) := by
    rw [Int.natCast_emod, h1]
    exact Int.emod_emod_of_dvd n (by
      have : (18446744073709551616 : Int) = ((2 ^ 64 : Nat) : Int) := by decide
      rw [this]
      exact Int.natCast_dvd_natCast.2 (Nat.pow_dvd_pow 2 (by omega)))
  rw [h2, IntKind.wrap_i64]
  have h3 : n % ((2 ^ j : Nat) : Int) < ((2 ^ j : Nat) : Int) := Int.emod_lt_of_pos _ (by omega)
  have h4 : 0 ≤ n % ((2 ^ j : Nat) : Int) := Int.emod_nonneg _ (by omega)
  omega
theorem below_drewN {B : Nat} {a w : World} (h : Below B a w) (n : Nat) : Below B a (w.drewN n) := ⟨h.os, h.tape, h.output, h.size, h.block⟩
theorem wf64K {n : Int} (h : (Lit.int .i64 n).wf = true) : -9223372036854775808 ≤ n ∧ n ≤ 9223372036854775807 := by
  simp [Lit.wf, IntKind.min, IntKind.max, IntKind.signed, IntKind.bits] at h
  omega
theorem Rd.natAt {w : World} {A : Option Addr} {n c : Nat} {us : List Nat} (h : Rd w (.slice A n c) (nvs us)) {k : Nat} (hk : k < us.length) : ∃ ad, A = some ad ∧ w.cell? (ad.add k) = some (.int .i64 (us[k] : Int)) := by
  obtain ⟨ad, c', e, hc⟩ := h.cell (j := k) (by simpa [nvs] using hk)
  injection e with e1 _ _
  exact ⟨ad, e1, by rw [hc]; simp [nvs]⟩
theorem Rd.intAtK {w : World} {A : Option Addr} {n c : Nat} {us : List Int} (h : Rd w (.slice A n c) (us.map (Value.int .i64))) {k : Nat} (hk : k < us.length) : ∃ ad, A = some ad ∧ w.cell? (ad.add k) = some (.int .i64 us[k]) := by
  obtain ⟨ad, c', e, hc⟩ := h.cell (j := k) (by simpa using hk)
  injection e with e1 _ _
  exact ⟨ad, e1, by rw [hc]; simp⟩
theorem Rd.shapeN {w : World} {v : Value} {us : List Nat} (h : Rd w v (nvs us)) : ∃ A c, v = .slice A us.length c := by
  obtain ⟨A, c, rfl, _⟩ := h
  exact ⟨A, c, by simp [nvs]⟩
theorem Rd.drop1 {w : World} {b n c u : Nat} {us : List Nat} (h : Rd w (.slice (some ⟨b, 0, none⟩) n c) (nvs (u :: us))) : Rd w (.slice (some ⟨b, 1, none⟩) (n - 1) (c - 1)) (nvs us) := by
  obtain ⟨A, c', e, hl, hr⟩ := h
  injection e with e1 e2 e3
  subst e1 e2 e3
  obtain ⟨ad, e, hc⟩ := hr (by simp [nvs])
  injection e with e
  subst e
  have hln : (nvs (u :: us)).length = us.length + 1 := by simp [nvs]
  rw [hln] at hl ⊢
  refine ⟨some ⟨b, 1, none⟩, c - 1, by simp [nvs], by simp [nvs]; omega, fun _ => ⟨_, rfl, fun j x hx => ?_⟩⟩
  have := hc (j + 1) x (by simpa [nvs] using hx)
  rw [addr_add_at] at this ⊢
  rw [show 1 + j = 0 + (j + 1) by omega]
  exact this
theorem run_slice1 {P : Program} (w : World) (t e : TypeId) (i : TypeInfo) (ht : P.underlying t = some (.slice e)) (hi : P.info? e = some i) (hs : i.size = 1) (b len cap : Nat) (h1 : 1 ≤ len) (h2 : len ≤ cap) (h4 : 1 < cap) :
    (Instr.slice t (.slice (some ⟨b, 0, none⟩) len cap) (some (.int .i64 1)) none none).run P w = .ok (.slice (some ⟨b, 1, none⟩) (len - 1) (cap - 1)) w := by
  have b2 : (0 : Int) ≤ (len : Int) ∧ (len : Int) ≤ (cap : Int) := by omega
  have b3 : (1 : Int) ≤ (len : Int) := by omega
  have b4 : ¬ (cap = 1) := by omega
  simp [Instr.slice, Instr.sliceBounds, Instr.sliceBound, run_underlying ht, sizeOf, typeInfo, hi, hs, asIntOf, h1, h2, b4, b3, Addr.add]
set_option maxRecDepth 100000 in
set_option maxHeartbeats 16000000 in
theorem CacheOrder_calls (w : World) {n0 : Int} {x1 : Value} {ys1 : List Int} (ww0 : (Lit.int .i64 n0).wf = true) (xx1 : Rd w x1 (ys1.map (Value.int .i64))) (ll1 : ys1.length ≤ 9223372036854775807) (ww1 : ∀ n ∈ ys1, (Lit.int .i64 n).wf = true) :
    Calls Try.prog 3 #[.int .i64 n0, x1] w fun e w' => e = .returned (.bool true) ∧ Below w.heap.size w w' := by
  obtain ⟨n1, n2⟩ := wf64K ww0
  obtain ⟨i0, hi, hz0, hz1, hz2⟩ := info_parts Try.info_intK
  obtain ⟨A1, c1, rfl⟩ : ∃ A c, x1 = .slice A ys1.length c := by
    obtain ⟨A, c, e, _⟩ := xx1
    exact ⟨A, c, by rw [e, List.length_map]⟩
  have hx1 := Lib.hid xx1
  clear xx1 ww1 ww0
  by_cases hg1 : n0 < 1
  · go_enter Try.func3, Try.ntmps3
    go_wp2_with fail
    refine (known_calls w).mono ?_
    rintro e w1 ⟨rfl, hB1⟩
    go_wp2
    go_ret
    exact ⟨rfl, hB1⟩
  by_cases hg2 : 20 < n0
  · go_enter Try.func3, Try.ntmps3
    go_wp2_with fail
    refine (known_calls w).mono ?_
    rintro e w1 ⟨rfl, hB1⟩
    go_wp2
    go_ret
    exact ⟨rfl, hB1⟩
  by_cases hg3 : 150 < ys1.length
  · go_enter Try.func3, Try.ntmps3
    go_wp2_with fail
    refine (known_calls w).mono ?_
    rintro e w1 ⟨rfl, hB1⟩
    go_wp2
    go_ret
    exact ⟨rfl, hB1⟩
  obtain ⟨sz, rfl⟩ : ∃ k : Nat, n0 = k := ⟨n0.toNat, by omega⟩
  have hs1 : 1 ≤ sz := by omega
  have hs2 : sz ≤ 20 := by omega
  have hL : ys1.length ≤ 150 := by omega
  have hat1 : Hid (∀ (W : World) (hB : Below w.heap.size w W) k (hk : k < ys1.length), ∃ ad, A1 = some ad ∧ W.cell? (ad.add k) = some (.int .i64 ys1[k])) := fun W hB k hk => (hx1.out.below hB).intAtK hk
  clear hx1 n1 n2 hg1 hg2 hg3
  go_enter Try.func3, Try.ntmps3
  go_wp2_with fail
  refine (known_calls w).mono ?_
  rintro e w1 ⟨rfl, hB1⟩
  go_wp2_with fail
  refine (NewB_calls w1 32 (by omega) (by omega)).mono ?_
  rintro e w2 ⟨g, S, rfl, hdk, hb2, hS⟩
  have hN := Lib.hid (NewC_calls (N := 32) w w2 hdk (hB1.trans (hb2.mono hB1.size)) (fun j hj => Nat.le_trans hB1.size (hS j hj)) (sz : Int) (by omega) (by omega))
  clear hdk hb2 hS
  go_wp2_with fail
  refine hN.out.mono ?_
  rintro e w3 ⟨gc, rfl, hc0⟩
  have hc0 : CS w w3 gc g 32 (newC sz) (dN 32) := hc0
  have hc0 := Lib.hid hc0
  have hcl0 : Hid (Cln 32 sz (newC sz) []) := ⟨rfl, rfl, List.nodup_nil, Nat.zero_le _, (fun u hu => absurd hu (by simp)), (fun h hh => absurd hh (by simp [newC])), (fun h hh => absurd hh (by simp [newC]))⟩
  have hct0 : Hid (Cnt 0 (newC sz) []) := ⟨Int.le_refl _, Int.le_refl _, rfl, rfl, Int.le_refl _⟩
  clear hN hB1
  obtain ⟨L, hLL⟩ : ∃ L, Hid (L = ys1.length) := ⟨_, rfl⟩
  rw [← hLL.out] at hL ⊢
  go_wp2
  go_loopw [9, 10, 11, 12, 13, 14, 15, 16, 17] (fun uv i _ _ _ _ _ _ _ wr => ∃ (k q : Nat) (us : List Nat) (c : Ck) (A : Option Addr) (cc : Nat), k ≤ L ∧ uv = .slice A q cc ∧ i = .int .i64 (k : Int) ∧ Hid (q = us.length) ∧ Hid (CS w wr gc g 32 c (dN 32)) ∧ Hid (Cln 32 sz c us) ∧ Hid (Cnt k c us) ∧ Hid (RdT (fun _ => True) 3 wr (.slice A q cc) (nvs us))) (fun _ i _ _ _ _ _ _ _ _ => L - (RowKit.intOf i).toNat)
  case atStart => exact ⟨0, 0, [], _, none, 0, Nat.zero_le _, rfl, rfl, rfl, hc0, hcl0, hct0, RdT.nil _ _⟩
  case round =>
    obtain ⟨k, q, us, c, A, cc, hk, rfl, rfl, hq, hcs, hcl, hct, hU⟩ := hrel
    clear hc0 hcl0 hct0
    by_cases hlt : k < L
    · have hkL : k < ys1.length := by rw [← hLL.out]; exact hlt
      obtain ⟨ad1, rfl, hy⟩ := hat1.out wr hcs.out.bel k hkL
      obtain ⟨nn, hnn⟩ : ∃ nn : Nat, (nn : Int) = ys1[k] % 32 := ⟨(ys1[k] % 32).toNat, by omega⟩
      have hn32 : nn < 32 := by omega
      have hand : bits .and .i64 ys1[k] 31 = (nn : Int) := by rw [hnn]; exact and_mask ys1[k] 5 (by decide)
      obtain ⟨g0, g2, g3, g4⟩ := hcl.out.get (n := nn) hct.out hs1 hn32 (by omega)
      have hG := CS.get hcs.out (by omega) hcl.out.ok (nn : Int) (fun x hx => by rw [g3.b512 x hx]; omega)
      rw [g2] at hG
      generalize getP c (dN 32) 32 (nn : Int) = o at *
      have hG := Lib.hid hG
      have g3 := Lib.hid g3
      have g4 := Lib.hid g4
      have hq20 : q ≤ 20 := by rw [hq.out]; have := hcl.out.len; omega
      have hBk := Lib.hid hcs.out.bel
      obtain ⟨us2, hus2⟩ : ∃ us2, Hid (stepU sz us nn = us2) := ⟨_, rfl⟩
      rw [hus2.out] at g3 g4
      generalize ys1[k] = y1 at *
      clear hcs hcl hct hnn g0
      go_wp2_with fail
      refine hG.out.mono ?_
      rintro e w4 ⟨hc4, hr, hkp⟩
      obtain ⟨vA, vn, vc, rfl⟩ := hr.val
      have hU4 := Lib.hid (hU.out.keep hkp (fun h => (kindK_ne h).2.2.2.1 rfl) (by decide) (by decide)).1
      have hc4 := Lib.hid hc4
      clear hr hG hkp hU hy
      go_wp2
      go_loopw [12, 13] (fun rv kv wr => ∃ (j q2 : Nat) (A2 : Option Addr) (c2 : Nat), j ≤ q ∧ kv = .int .i64 (j : Int) ∧ rv = .slice A2 q2 c2 ∧ Hid (q2 = ((us.take j).filter fun x => x != nn).length) ∧ Hid (wr.ownsRow w4.heap.size 3 1 (.slice A2 q2 c2) q2 (nvs ((us.take j).filter fun x => x != nn))) ∧ Hid (Below w4.heap.size w4 wr)) (fun _ kv _ => q - (RowKit.intOf kv).toNat)
      case atStart => exact ⟨0, 0, none, 0, Nat.zero_le _, rfl, rfl, rfl, World.ownsRow_nil _ _ _ _, Below.refl _ _⟩
      case round =>
        obtain ⟨j, q2, A2, c2, hj, rfl, rfl, hq2, hrow, hB2⟩ := hrel
        by_cases hjq : j < q
        · have hjl : j < us.length := by rw [← hq.out]; exact hjq
          obtain ⟨ad, rfl, hcell⟩ := (hU4.out.below hB2.out).natAt hjl
          have htk : Hid (us.take (j + 1) = us.take j ++ [us[j]]) := List.take_succ_eq_append_getElem hjl
          have hq2q : q2 ≤ 20 := by
            have h1 := hq2.out
            have h2 := List.length_filter_le (fun x => x != nn) (us.take j)
            rw [List.length_take] at h2
            omega
          by_cases hne : us[j] = nn
          · have he : Hid (((us.take (j + 1)).filter fun x => x != nn) = ((us.take j).filter fun x => x != nn)) := by
              show _ = _
              rw [htk.out, List.filter_append, List.filter_cons, if_neg (by simp [hne])]
              simp
            rw [hne] at hcell
            rw [← he.out] at hrow hq2
            clear htk he hne
            go_wp2
            go_roundw
            case rel => exact ⟨j + 1, q2, A2, c2, by omega, by go_num, rfl, hq2, hrow, hB2⟩
            case measure => simp [RowKit.intOf]; omega
          · have he : Hid (((us.take (j + 1)).filter fun x => x != nn) = ((us.take j).filter fun x => x != nn) ++ [us[j]]) := by
              show _ = _
              rw [htk.out, List.filter_append, List.filter_cons, if_pos (by simp [hne])]
              simp
            have hnb : ((us[j] : Int) != (nn : Int)) = true := by simp; omega
            generalize us[j] = uj at *
            have hrow2 := Lib.hid (World.ownsRow.alloc hrow.out (.cells #[.int .i64 (uj : Int)] 3))
            have hrd2 : Hid (Rd (wr.alloc (.cells #[.int .i64 (uj : Int)] 3)) (.slice (some ⟨wr.heap.size, 0, none⟩) 1 1) [.int .i64 (uj : Int)]) := rd_new wr [.int .i64 (uj : Int)] 3 1 rfl
            have hszB := hB2.out.size
            clear htk hne
            go_wp2_with (at_builtin; refine stop_app rfl ?_)
            refine Stop.mk (wpList_app _ rfl rfl (us := [.int .i64 (uj : Int)]) (base := w4.heap.size) Try.underlying22 hi hz0 hz1 hz2 rfl hrow2.out rfl hrd2.out rfl (by intro u hu; simp at hu; subst hu; rfl) ?_ ?_ (by rw [World.size_alloc]; omega) ?_)
            · unfold maxLen; simp only [List.length_cons, List.length_nil]; omega
            · simp only [List.length_cons, List.length_nil]; omega
            intro v9 w9 hown hg hat
            have hown : w9.ownsRow w4.heap.size 3 1 v9 (q2 + 1) (nvs ((us.take (j + 1)).filter fun x => x != nn)) := by
              rw [he.out]
              unfold nvs at *
              rw [List.map_append]
              exact hown
            obtain ⟨A9, c9, rfl⟩ := own_shape hown
            have hB9 := Lib.hid ((hB2.out.alloc hszB (.cells #[.int .i64 (uj : Int)] 3)).grown hg (by rw [World.size_alloc]; omega) (fun j hj => own_geB hrow2.out j hj))
            have hown := Lib.hid hown
            have hq3 : Hid (q2 + 1 = ((us.take (j + 1)).filter fun x => x != nn).length) := by show _ = _; rw [he.out, List.length_append, ← hq2.out]; rfl
            clear hg hat hrow hrow2 hrd2 hB2 hszB hcell hq2 he hnb
            go_wp2
            go_roundw
            case rel => exact ⟨j + 1, q2 + 1, A9, c9, by omega, by go_num, rfl, hq3, hown, hB9⟩
            case measure => simp [RowKit.intOf]; omega
        · obtain rfl : j = q := by omega
          have hall : Hid (us.take j = us) := by show _ = _; rw [hq.out, List.take_length]
          rw [hall.out] at hrow hq2
          have hq2q : q2 ≤ 20 := by
            have h1 := hq2.out
            have h2 := List.length_filter_le (fun x => x != nn) us
            have h3 := hq.out
            omega
          have hrow2 := Lib.hid (World.ownsRow.alloc hrow.out (.cells #[.int .i64 (nn : Int)] 3))
          have hrd2 : Hid (Rd (wr.alloc (.cells #[.int .i64 (nn : Int)] 3)) (.slice (some ⟨wr.heap.size, 0, none⟩) 1 1) [.int .i64 (nn : Int)]) := rd_new wr [.int .i64 (nn : Int)] 3 1 rfl
          have hszB := hB2.out.size
          go_wp2_with (at_builtin; refine stop_app rfl ?_)
          refine Stop.mk (wpList_app _ rfl rfl (us := [.int .i64 (nn : Int)]) (base := w4.heap.size) Try.underlying22 hi hz0 hz1 hz2 rfl hrow2.out rfl hrd2.out rfl (by intro u hu; simp at hu; subst hu; rfl) ?_ ?_ (by rw [World.size_alloc]; omega) ?_)
          · unfold maxLen; simp only [List.length_cons, List.length_nil]; omega
          · simp only [List.length_cons, List.length_nil]; omega
          intro v9 w9 hown hg hat
          have hown : w9.ownsRow w4.heap.size 3 1 v9 (q2 + 1) (nvs ((us.filter fun x => x != nn) ++ [nn])) := by
            unfold nvs at *
            rw [List.map_append]
            exact hown
          obtain ⟨b9, c9, rfl⟩ := own_at hown (by omega)
          have hcap : q2 + 1 ≤ c9 := by
            rcases hown.2 with ⟨h1, _⟩ | ⟨g', cap, cur, h1, _, _, h2, _⟩
            · cases h1
            · injection h1 with _ _ h3
              omega
          have hB9 := (hB2.out.alloc hszB (.cells #[.int .i64 (nn : Int)] 3)).grown hg (by rw [World.size_alloc]; omega) (fun j hj => own_geB hrow2.out j hj)
          have hc9 := Lib.hid (hc4.out.go hB9)
          have hlf : Hid (((us.filter fun x => x != nn) ++ [nn]).length = q2 + 1) := by show _ = _; rw [List.length_append, ← hq2.out]; rfl
          have hT9 : RdT (fun _ => True) 3 w9 (.slice (some ⟨b9, 0, none⟩) (q2 + 1) c9) (nvs ((us.filter fun x => x != nn) ++ [nn])) := RdT.of_own (base := w4.heap.size) (n := q2 + 1) hown (fun _ _ => trivial)
          have hT9 := Lib.hid hT9
          clear hown hg hat hrow hrow2 hrd2 hB2 hszB hB9 hU4 hc4 hq2 hall
          by_cases hbig : sz < q2 + 1
          · have hst : Hid (us2 = ((us.filter fun x => x != nn) ++ [nn]).drop 1) := by
              show _ = _
              rw [← hus2.out]
              unfold stepU
              rw [if_pos (by rw [hlf.out]; exact hbig)]
            obtain ⟨u0, ur, hur⟩ : ∃ u0 ur, (us.filter fun x => x != nn) ++ [nn] = u0 :: ur := by
              cases hh : (us.filter fun x => x != nn) ++ [nn] with
              | nil => simp at hh
              | cons a b => exact ⟨a, b, rfl⟩
            rw [hur] at hT9 hst hlf
            have hst : Hid (us2 = ur) := by show _ = _; rw [hst.out]; rfl
            have hsl : (Instr.slice 22 (.slice (some ⟨b9, 0, none⟩) (q2 + 1) c9) (some (.int .i64 1)) none none).run Try.prog w9 = .ok (.slice (some ⟨b9, 1, none⟩) q2 (c9 - 1)) w9 := run_slice1 (P := Try.prog) w9 22 3 i0 Try.underlying22 hi hz1 b9 (q2 + 1) c9 (by omega) hcap (by omega)
            have hTn : Hid (RdT (fun _ => True) 3 w9 (.slice (some ⟨b9, 1, none⟩) q2 (c9 - 1)) (nvs us2)) := by
              obtain ⟨h1, h2⟩ := hT9.out
              refine ⟨by rw [hst.out]; exact h1.drop1, fun _ => ?_⟩
              obtain ⟨kk, cs, e, hb, hF⟩ := h2 (by simp [nvs])
              refine ⟨kk, cs, ?_, hb, hF⟩
              simpa [Value.ownBlock] using e
            have hqn : Hid (q2 = us2.length) := by show _ = _; rw [hst.out]; have := hlf.out; simp at this; omega
            clear hT9 hst hur hlf hcap
            have hH := Lib.hid (CS.held hc9.out (by omega))
            obtain ⟨hl1, hl2⟩ := g3.out.held
            have hl2 := Lib.hid hl2
            obtain ⟨hL2, hhL⟩ : ∃ hL2, Hid (heldL o.2.1 32 = hL2) := ⟨_, rfl⟩
            rw [hhL.out] at hH hl1 hl2
            obtain ⟨Q, hQ⟩ : ∃ Q, Q = q2 := ⟨_, rfl⟩
            rw [← hQ] at hTn hqn
            have hQ20 : Q ≤ 40 := by rw [hqn.out]; have := g3.out.len; omega
            have hQh := Lib.hid hQ
            clear hQ
            go_wp2_with fail
            try rw [← hQh.out]
            refine hH.out.mono ?_
            rintro e w5 ⟨⟨hv, rfl, hrd, hB5⟩, hc5⟩
            obtain ⟨hA, hcc, rfl⟩ := hrd.shapeN
            rw [hl1, ← hqn.out] at hrd ⊢
            have hrd := Lib.hid hrd
            have hc5 := Lib.hid hc5
            have hT5 := Lib.hid (hTn.out.below hB5)
            have hl1 : Hid (hL2.length = Q) := by show _ = _; rw [hl1, hqn.out]
            clear hB5 hH hTn hc9
            go_wp2
            go_loopw [15, 16, 17] (fun kv _ _ wr => ∃ j : Nat, j ≤ Q ∧ kv = .int .i64 (j : Int) ∧ Hid (Below w5.heap.size w5 wr)) (fun kv _ _ _ => Q - (RowKit.intOf kv).toNat)
            case atStart => exact ⟨0, Nat.zero_le _, rfl, Below.refl _ _⟩
            case round =>
              obtain ⟨j, hj, rfl, hB3⟩ := hrel
              by_cases hjq : j < Q
              · have hjl : j < hL2.length := by rw [hl1.out]; exact hjq
                have hin : Hid (us2.any (fun x => x == hL2[j]) = true) := by
                  show _ = _
                  rw [List.any_eq_true]
                  exact ⟨_, hl2.out _ (List.getElem_mem hjl), by simp⟩
                have hhc : Hid (∀ W, Below w5.heap.size w5 W → ∃ ad, hA = some ad ∧ W.cell? (ad.add j) = some (.int .i64 (hL2[j] : Int))) := fun W hB => (hrd.out.below hB).natAt hjl
                generalize hL2[j] = hk2 at *
                go_wp2
                go_loopw [16, 17] (fun iv jv wr => ∃ (m : Nat) (b : Bool), m ≤ Q ∧ jv = .int .i64 (m : Int) ∧ iv = .bool b ∧ Hid (b = (us2.take m).any (fun x => x == hk2)) ∧ Hid (Below w5.heap.size w5 wr)) (fun _ jv _ => Q - (RowKit.intOf jv).toNat)
                case atStart => exact ⟨0, false, Nat.zero_le _, rfl, rfl, by rfl, hB3.out⟩
                case round =>
                  obtain ⟨m, b, hm, rfl, rfl, hb, hB4⟩ := hrel
                  by_cases hmq : m < Q
                  · have hml : m < us2.length := by rw [← hqn.out]; exact hmq
                    have hnx : Hid ((us2.take (m + 1)).any (fun x => x == hk2) = ((us2.take m).any (fun x => x == hk2) || us2[m] == hk2)) := by
                      show _ = _
                      rw [List.take_succ_eq_append_getElem hml, List.any_append]
                      simp
                    obtain ⟨ad1, rfl, z1⟩ := hhc.out wr hB4.out
                    obtain ⟨ad2, e2, z2⟩ := (hT5.out.1.below hB4.out).natAt hml
                    injection e2 with e2
                    subst e2
                    rw [addr_add_at] at z2
                    try rw [Nat.zero_add] at z2
                    generalize us2[m] = um at *
                    have hmi : (m : Int) < (Q : Int) := by omega
                    have hji : (j : Int) < (Q : Int) := by omega
                    cases b with
                    | true =>
                      have hb1 : Hid (true = (us2.take (m + 1)).any (fun x => x == hk2)) := by
                        show _ = _
                        rw [hnx.out, ← hb.out]
                        rfl
                      clear hnx hb
                      go_wp2_with fail
                      go_quiet (fail)
                      clear z1 z2
                      go_wp2
                      go_roundw
                      case rel => exact ⟨m + 1, true, by omega, by go_num, rfl, hb1, below_drewN hB4.out _⟩
                      case measure => simp [RowKit.intOf]; omega
                    | false =>
                      have hb1 : Hid (((um : Int) == (hk2 : Int)) = (us2.take (m + 1)).any (fun x => x == hk2)) := by
                        show _ = _
                        rw [hnx.out, ← hb.out, Bool.false_or]
                        by_cases e : um = hk2
                        · subst e; simp
                        · have e2 : ((um : Int) == (hk2 : Int)) = false := by rw [beq_eq_false_iff_ne]; omega
                          rw [e2, beq_eq_false_iff_ne.2 e]
                      clear hnx hb
                      go_wp2_with fail
                      go_quiet (fail)
                      clear z1 z2
                      go_wp2
                      go_roundw
                      case rel => exact ⟨m + 1, _, by omega, by go_num, rfl, hb1, below_drewN hB4.out _⟩
                      case measure => simp [RowKit.intOf]; omega
                  · obtain rfl : m = Q := by omega
                    have hbt : Hid (b = true) := by
                      show _ = _
                      rw [hb.out, hqn.out, List.take_length]
                      exact hin.out
                    have hbt2 := hbt.out
                    subst hbt2
                    clear hb hin hbt
                    go_wp2
                    go_roundw
                    case rel => exact ⟨j + 1, by omega, by go_num, hB4⟩
                    case measure => simp [RowKit.intOf]; omega
              · obtain rfl : j = Q := by omega
                have hcE := Lib.hid (hc5.out.go hB3.out)
                have hTE := Lib.hid (hT5.out.below hB3.out)
                clear hc5 hT5 hrd hB3
                go_wp2
                go_roundw
                case rel => exact ⟨k + 1, j, us2, o.2.1, some ⟨b9, 1, none⟩, c9 - 1, by omega, by first | rfl | (rw [hQh.out]), by go_num, hqn, hcE, g3, g4, hTE⟩
                case measure => simp [RowKit.intOf]; omega
          · have hst : Hid (us2 = (us.filter fun x => x != nn) ++ [nn]) := by
              show _ = _
              rw [← hus2.out]
              unfold stepU
              rw [if_neg (by rw [hlf.out]; exact hbig)]
            have hTn : Hid (RdT (fun _ => True) 3 w9 (.slice (some ⟨b9, 0, none⟩) (q2 + 1) c9) (nvs us2)) := by
              show RdT _ _ _ _ _
              rw [hst.out]
              exact hT9.out
            have hqn : Hid (q2 + 1 = us2.length) := by show _ = _; rw [hst.out]; exact hlf.out.symm
            clear hT9 hst hlf hcap
            have hH := Lib.hid (CS.held hc9.out (by omega))
            obtain ⟨hl1, hl2⟩ := g3.out.held
            have hl2 := Lib.hid hl2
            obtain ⟨hL2, hhL⟩ : ∃ hL2, Hid (heldL o.2.1 32 = hL2) := ⟨_, rfl⟩
            rw [hhL.out] at hH hl1 hl2
            obtain ⟨Q, hQ⟩ : ∃ Q, Q = q2 + 1 := ⟨_, rfl⟩
            rw [← hQ] at hTn hqn
            have hQ20 : Q ≤ 40 := by rw [hqn.out]; have := g3.out.len; omega
            have hQh := Lib.hid hQ
            clear hQ
            go_wp2_with fail
            try rw [← hQh.out]
            refine hH.out.mono ?_
            rintro e w5 ⟨⟨hv, rfl, hrd, hB5⟩, hc5⟩
            obtain ⟨hA, hcc, rfl⟩ := hrd.shapeN
            rw [hl1, ← hqn.out] at hrd ⊢
            have hrd := Lib.hid hrd
            have hc5 := Lib.hid hc5
            have hT5 := Lib.hid (hTn.out.below hB5)
            have hl1 : Hid (hL2.length = Q) := by show _ = _; rw [hl1, hqn.out]
            clear hB5 hH hTn hc9
            go_wp2
            go_loopw [15, 16, 17] (fun kv _ _ wr => ∃ j : Nat, j ≤ Q ∧ kv = .int .i64 (j : Int) ∧ Hid (Below w5.heap.size w5 wr)) (fun kv _ _ _ => Q - (RowKit.intOf kv).toNat)
            case atStart => exact ⟨0, Nat.zero_le _, rfl, Below.refl _ _⟩
            case round =>
              obtain ⟨j, hj, rfl, hB3⟩ := hrel
              by_cases hjq : j < Q
              · have hjl : j < hL2.length := by rw [hl1.out]; exact hjq
                have hin : Hid (us2.any (fun x => x == hL2[j]) = true) := by
                  show _ = _
                  rw [List.any_eq_true]
                  exact ⟨_, hl2.out _ (List.getElem_mem hjl), by simp⟩
                have hhc : Hid (∀ W, Below w5.heap.size w5 W → ∃ ad, hA = some ad ∧ W.cell? (ad.add j) = some (.int .i64 (hL2[j] : Int))) := fun W hB => (hrd.out.below hB).natAt hjl
                generalize hL2[j] = hk2 at *
                go_wp2
                go_loopw [16, 17] (fun iv jv wr => ∃ (m : Nat) (b : Bool), m ≤ Q ∧ jv = .int .i64 (m : Int) ∧ iv = .bool b ∧ Hid (b = (us2.take m).any (fun x => x == hk2)) ∧ Hid (Below w5.heap.size w5 wr)) (fun _ jv _ => Q - (RowKit.intOf jv).toNat)
                case atStart => exact ⟨0, false, Nat.zero_le _, rfl, rfl, by rfl, hB3.out⟩
                case round =>
                  obtain ⟨m, b, hm, rfl, rfl, hb, hB4⟩ := hrel
                  by_cases hmq : m < Q
                  · have hml : m < us2.length := by rw [← hqn.out]; exact hmq
                    have hnx : Hid ((us2.take (m + 1)).any (fun x => x == hk2) = ((us2.take m).any (fun x => x == hk2) || us2[m] == hk2)) := by
                      show _ = _
                      rw [List.take_succ_eq_append_getElem hml, List.any_append]
                      simp
                    obtain ⟨ad1, rfl, z1⟩ := hhc.out wr hB4.out
                    obtain ⟨ad2, e2, z2⟩ := (hT5.out.1.below hB4.out).natAt hml
                    injection e2 with e2
                    subst e2
                    rw [addr_add_at] at z2
                    try rw [Nat.zero_add] at z2
                    generalize us2[m] = um at *
                    have hmi : (m : Int) < (Q : Int) := by omega
                    have hji : (j : Int) < (Q : Int) := by omega
                    cases b with
                    | true =>
                      have hb1 : Hid (true = (us2.take (m + 1)).any (fun x => x == hk2)) := by
                        show _ = _
                        rw [hnx.out, ← hb.out]
                        rfl
                      clear hnx hb
                      go_wp2_with fail
                      go_quiet (fail)
                      clear z1 z2
                      go_wp2
                      go_roundw
                      case rel => exact ⟨m + 1, true, by omega, by go_num, rfl, hb1, below_drewN hB4.out _⟩
                      case measure => simp [RowKit.intOf]; omega
                    | false =>
                      have hb1 : Hid (((um : Int) == (hk2 : Int)) = (us2.take (m + 1)).any (fun x => x == hk2)) := by
                        show _ = _
                        rw [hnx.out, ← hb.out, Bool.false_or]
                        by_cases e : um = hk2
                        · subst e; simp
                        · have e2 : ((um : Int) == (hk2 : Int)) = false := by rw [beq_eq_false_iff_ne]; omega
                          rw [e2, beq_eq_false_iff_ne.2 e]
                      clear hnx hb
                      go_wp2_with fail
                      go_quiet (fail)
                      clear z1 z2
                      go_wp2
                      go_roundw
                      case rel => exact ⟨m + 1, _, by omega, by go_num, rfl, hb1, below_drewN hB4.out _⟩
                      case measure => simp [RowKit.intOf]; omega
                  · obtain rfl : m = Q := by omega
                    have hbt : Hid (b = true) := by
                      show _ = _
                      rw [hb.out, hqn.out, List.take_length]
                      exact hin.out
                    have hbt2 := hbt.out
                    subst hbt2
                    clear hb hin hbt
                    go_wp2
                    go_roundw
                    case rel => exact ⟨j + 1, by omega, by go_num, hB4⟩
                    case measure => simp [RowKit.intOf]; omega
              · obtain rfl : j = Q := by omega
                have hcE := Lib.hid (hc5.out.go hB3.out)
                have hTE := Lib.hid (hT5.out.below hB3.out)
                clear hc5 hT5 hrd hB3
                go_wp2
                go_roundw
                case rel => exact ⟨k + 1, j, us2, o.2.1, some ⟨b9, 0, none⟩, c9, by omega, by first | rfl | (rw [hQh.out]), by go_num, hqn, hcE, g3, g4, hTE⟩
                case measure => simp [RowKit.intOf]; omega
    · obtain rfl : k = L := by omega
      have hS := Lib.hid (CS.stats hcs.out)
      have hct0 := hct.out
      obtain ⟨t1, t2, t3, t4, t5⟩ := hct0
      have hsum : c.hits + c.misses = (k : Int) := t3
      have hev : c.evs = c.misses - (q : Int) := by rw [t4, hq.out]
      have hq2 : q ≤ 20 := by rw [hq.out]; have := hcl.out.len; omega
      generalize c.hits = hh at *
      generalize c.misses = hm at *
      generalize c.evs = he at *
      subst hev
      clear t4 hat1 hcl hct hU hcs
      go_wp2_with fail
      refine hS.out.mono ?_
      rintro e w4 ⟨rfl, hc4, _⟩
      have hBe := Lib.hid hc4.bel
      clear hc4 hS
      have hsb : ((hh + hm : Int) == (k : Int)) = true := by simpa using hsum
      go_wp2
      go_ret
      exact ⟨rfl, hBe.out⟩
end Go.Proofs.Ytfapehgjiglflaa
