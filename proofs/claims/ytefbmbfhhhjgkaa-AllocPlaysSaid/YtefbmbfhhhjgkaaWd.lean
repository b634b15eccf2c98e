/- The log: a first block is read. -/
import Derived.Test.YtefbmbfhhhjgkaaWa
import Derived.Test.YtefbmbfhhhjgkaaWm
namespace Go.Proofs.Ytefbmbfhhhjgkaa
open Go.RowKit
theorem numsP_at : ∀ (n k : Nat) (rs : List UInt8), k < n → (numsP n rs)[k]? = some (numP ((rs.drop (2 * k)).take 2))
  | n + 1, 0, rs, _ => by simp [numsP]
  | n + 1, k + 1, rs, h => by
    rw [numsP, List.getElem?_cons_succ, numsP_at n k _ (by omega), List.drop_drop]
    congr 4
    omega
theorem numsP_len : ∀ (n : Nat) (rs : List UInt8), (numsP n rs).length = n
  | 0, _ => rfl
  | n + 1, rs => by rw [numsP, List.length_cons, numsP_len]
theorem numsP_take {n k : Nat} (h : k < n) (rs : List UInt8) : (numsP n rs).take (k + 1) = (numsP n rs).take k ++ [numP ((rs.drop (2 * k)).take 2)] := by
  rw [List.take_add_one, numsP_at n k rs h]
  rfl
theorem own_geI {w : World} {t : TypeId} {size base n : Nat} {v : Value} {xs : List Value} (h : w.ownsRow base t size v n xs) : ∀ j, v.ownBlock = some j → base ≤ j := fun j hj => by
  rcases h.2 with ⟨rfl, _⟩ | ⟨g, cap, cur, rfl, hb, _⟩
  · simp [Value.ownBlock] at hj
  · have e : g = j := by simpa [Value.ownBlock] using hj
    omega
theorem own_kindI {w : World} {base e size n : Nat} {v : Value} {xs : List Value} (h : w.ownsRow base e size v n xs) {k : Nat} (hk : v.ownBlock = some k) : ∃ cs, Blk w k e cs := by
  rcases h.2 with ⟨rfl, _⟩ | ⟨g', cap, cur, rfl, _, hg, _⟩
  · simp [Value.ownBlock] at hk
  · have x : g' = k := by simpa [Value.ownBlock] using hk
    subst x
    exact ⟨cur, hg⟩
theorem own_chgI {w w' : World} {t : TypeId} {s n base : Nat} {v : Value} {xs : List Value} {S : Nat → Prop} (h : w.ownsRow base t s v n xs) (hc : Chg S w w') (hs : ∀ j, v.ownBlock = some j → ¬ S j) : w'.ownsRow base t s v n xs :=
  ⟨h.1, by
    rcases h.2 with h | ⟨g, cap, cur, rfl, hb, hg, rest⟩
    · exact .inl h
    · exact .inr ⟨g, cap, cur, rfl, hb, (hc.block g (Blk.lt hg) (hs g rfl)).trans hg, rest⟩⟩
theorem Try.info_intW : (Try.prog.info? 3).map (fun i => (i.zero, i.size, i.bytes)) = some (some (.int .i64 0), 1, 8) := by kernel_rfl
theorem own_baseI {w : World} {t : TypeId} {size base b2 n : Nat} {v : Value} {xs : List Value} (h : w.ownsRow base t size v n xs) (hb : b2 ≤ base) : w.ownsRow b2 t size v n xs :=
  ⟨h.1, by
    rcases h.2 with h | ⟨g, cap, cur, rfl, h1, r⟩
    · exact .inl h
    · exact .inr ⟨g, cap, cur, rfl, Nat.le_trans hb h1, r⟩⟩
theorem Rd.shapeV {w : World} {v : Value} {us : List Value} (h : Rd w v us) : ∃ A c, v = .slice A us.length c ∧ us.length ≤ c := by
  obtain ⟨A, c, rfl, hl, _⟩ := h
  exact ⟨A, c, rfl, hl⟩
theorem Rd.inW {w : World} {v : Value} {us : List Value} (h : Rd w v us) (hne : us ≠ []) : ∀ k, v.ownBlock = some k → k < w.heap.size := fun k hk => by
  obtain ⟨A, c, rfl, _, hr⟩ := h
  obtain ⟨ad, rfl, hc⟩ := hr hne
  have h0 : 0 < us.length := List.length_pos_iff.2 hne
  have := World.block_lt_of_cell? w _ (hc 0 _ (List.getElem?_eq_getElem h0))
  rw [addr_add_block] at this
  injection hk with hk
  omega
def HeadsOut (w : World) (r : Option (List Nat)) (e : Ending) (w' : World) : Prop := ∃ v b, e = .returned (.tuple #[v, .bool b]) ∧ Below w.heap.size w w' ∧ match r with
  | none => b = false
  | some ns => b = true ∧ w'.ownsRow w.heap.size 3 1 v ns.length (nvs ns)
theorem takeP_mid (bs : List UInt8) (k n : Nat) (h : k + n ≤ bs.length) : takeP (bs.drop k) 0 (n : Int) = ((bs.drop k).take n, bs.drop (k + n), 0) := by
  unfold takeP
  rw [if_neg (by decide), if_neg (by omega), if_neg (by rw [List.length_drop]; omega), List.drop_drop]
  rfl
set_option maxRecDepth 10000 in
set_option maxHeartbeats 4000000 in
theorem heads_calls (w : World) (x : Value) (bs : List UInt8) (hx : Rd w x (bvs bs)) (hl : bs.length = 512) (N : Nat) (hN : N ≤ 1000000) : Calls Try.prog 67 #[x, .int .i64 (N : Int)] w (HeadsOut w (headsP bs N)) := by
  obtain ⟨i0, hi, hz0, hz1, hz2⟩ := info_parts Try.info_intW
  obtain ⟨A, c, rfl⟩ := hx.shape8
  have hNR := Lib.hid (NewReader_calls w (.slice A bs.length c) bs hx (by omega))
  have hbl := Lib.hid hl
  have hFx := Lib.hid (fun (W : World) (g : Nat) (b : Value) (h : Rdr W g b bs 0) => (RFixed_calls W g b bs 0 ((8 : Nat) : Int) h (by have := hbl.out; omega)))
  have ht8 : takeP bs 0 ((8 : Nat) : Int) = (bs.take 8, bs.drop 8, 0) := takeP_mid bs 0 8 (by omega)
  rw [ht8] at hFx
  have hU := Lib.hid (fun (W : World) (g k : Nat) (b : Value) (h : Rdr W g b (bs.drop k) 0) => RU16_calls W g b (bs.drop k) 0 h (by have := hbl.out; rw [List.length_drop]; omega))
  have htk : Hid (∀ (k : Nat), k ≤ 500 → takeP (bs.drop k) 0 2 = ((bs.drop k).take 2, bs.drop (k + 2), 0)) := fun k hk => takeP_mid bs k 2 (by have := hbl.out; omega)
  have hnr : Hid (∀ rs : List UInt8, numP (rs.take 2) < 65536) := fun rs => by
    have := numP_lt (rs.take 2)
    have h2 : (rs.take 2).length ≤ 2 := by rw [List.length_take]; omega
    refine Nat.lt_of_lt_of_le this ?_
    calc 256 ^ (rs.take 2).length ≤ 256 ^ 2 := Nat.pow_le_pow_right (by omega) h2
      _ = 65536 := rfl
  clear hx ht8 hl
  obtain ⟨R, hR⟩ : ∃ R, Hid (headsP bs N = R) := ⟨_, Lib.hid rfl⟩
  rw [hR.out]
  obtain ⟨bn, hbn⟩ : ∃ n, Hid (bs.length = n) := ⟨_, Lib.hid rfl⟩
  rw [hbn.out] at hNR ⊢
  go_enter Try.func67, Try.ntmps67
  go_wp2_with fail
  refine hNR.out.mono ?_
  rintro e w1 ⟨g, b, rfl, hg, hr1, hB1, hb1⟩
  have hF := Lib.hid (hFx.out w1 g b hr1)
  have hbq : ∀ k, b.ownBlock = some k → k < w1.heap.size := hr1.rd.inW (by intro e; have := congrArg List.length e; rw [bvs_length, hbl.out] at this; cases this)
  obtain ⟨q0, hq0⟩ : ∃ q, w1.heap.size = q := ⟨_, rfl⟩
  rw [hq0] at hbq
  have hq : w.heap.size ≤ q0 := hq0 ▸ hB1.size
  have hq1 : Hid (q0 ≤ w1.heap.size) := Nat.le_of_eq hq0.symm
  have hq := Lib.hid hq
  have hbq := Lib.hid hbq
  clear hq0
  have hg := Lib.hid hg
  have hb1 := Lib.hid hb1
  have hB1 := Lib.hid hB1
  clear hFx hNR hr1
  go_wp2_with fail
  refine hF.out.mono ?_
  rintro e w2 ⟨out, b2, rfl, ho2, hr2, hc2, hob2, hbb2⟩
  dsimp only at ho2 hr2
  have hB2 : Hid (Below w.heap.size w w2) := hB1.out.trans (hc2.below hB1.out.size (fun k hk => by subst hk; exact hg.out))
  have hb2 : Hid (∀ k, b2.ownBlock = some k → k < q0) := by show ∀ _, _; rw [hbb2]; exact hbq.out
  have hq2 : Hid (q0 ≤ w2.heap.size) := Nat.le_trans hq1.out hc2.size
  have s1 := run_str (P := Try.prog) w2 63 9 5 _ _ Try.underlying63 Try.underlying5 Try.underlying9 (Rd.of_own ho2)
  unfold str at s1
  have hr2 := Lib.hid hr2
  clear hF ho2 hc2 hob2 hbb2 hb1 hB1
  by_cases hm : bs.take 8 = magicB
  · rw [hm] at s1
    unfold magicB at s1
    have hU8 := Lib.hid (hU.out w2 g 8 b2 hr2.out)
    rw [htk.out 8 (by omega)] at hU8
    have hn8 := hnr.out (bs.drop 8)
    obtain ⟨n, hn⟩ : ∃ n, Hid (numP ((bs.drop 8).take 2) = n) := ⟨_, Lib.hid rfl⟩
    have hR2 : Hid ((if 63 < n then none else if (numsP n (bs.drop 10)).all (fun k => decide (k < N)) = true then some (numsP n (bs.drop 10)) else none) = R) := by
      show _ = _
      rw [← hR.out, ← hn.out]
      unfold headsP
      rw [if_neg (show ¬ (bs.take 8 ≠ magicB) by simp [hm])]
    rw [hn.out] at hn8
    clear hr2
    go_wp2_with fail
    refine hU8.out.mono ?_
    rintro e w3 ⟨b3, rfl, hr3, hc3, hbb3⟩
    dsimp only at hr3
    rw [hn.out]
    have hr3 : Hid (Rdr w3 g b3 (bs.drop (10 + 2 * 0)) 0) := hr3
    have hB3 : Hid (Below w.heap.size w w3) := hB2.out.trans (hc3.below hB2.out.size (fun k hk => by subst hk; exact hg.out))
    have hb3 : Hid (∀ k, b3.ownBlock = some k → k < q0) := by show ∀ _, _; rw [hbb3]; exact hb2.out
    have hq3 : Hid (q0 ≤ w3.heap.size) := Nat.le_trans hq2.out hc3.size
    clear hU8 hc3 hbb3 hB2 hb2 s1
    by_cases h63 : 63 < n
    · have hRn : Hid (R = none) := by show _ = _; rw [← hR2.out, if_pos h63]
      clear hR2
      go_wp2
      go_ret2
      rw [hRn.out]
      exact ⟨_, _, rfl, hB3.out, rfl⟩
    · have hR3 : Hid ((if (numsP n (bs.drop 10)).all (fun k => decide (k < N)) = true then some (numsP n (bs.drop 10)) else none) = R) := by
        show _ = _
        rw [← hR2.out, if_neg h63]
      have hnl := Lib.hid (numsP_len n (bs.drop 10))
      have hnt := Lib.hid (fun k (hk : k < n) => numsP_take hk (bs.drop 10))
      have hna := Lib.hid (fun k (hk : k < n) => numsP_at n k (bs.drop 10) hk)
      clear hR2
      obtain ⟨ns, hns⟩ : ∃ ns, Hid (numsP n (bs.drop 10) = ns) := ⟨_, Lib.hid rfl⟩
      rw [hns.out] at hR3 hnl hnt hna
      clear hns
      go_wp2
      go_loopw [8, 21] (fun o iv wr => ∃ (k : Nat) (b : Value) (A : Option Addr) (cc : Nat), k ≤ n ∧ o = .slice A k cc ∧ iv = .int .i64 (k : Int) ∧ Hid (Rdr wr g b (bs.drop (10 + 2 * k)) 0) ∧ Hid (Below w.heap.size w wr) ∧ Hid (∀ k, b.ownBlock = some k → k < q0) ∧ Hid (q0 ≤ wr.heap.size) ∧ Hid (wr.ownsRow q0 3 1 (.slice A k cc) k (nvs (ns.take k))) ∧ Hid (∀ x ∈ ns.take k, x < N)) (fun _ iv _ => n - (RowKit.intOf iv).toNat)
      case atStart => exact ⟨0, b3, none, 0, Nat.zero_le _, rfl, rfl, hr3, hB3, hb3, hq3, World.ownsRow_nil _ _ _ _, fun x hx => by simp at hx⟩
      case round =>
        obtain ⟨k, b4, A4, c4, hk, rfl, rfl, hr4, hB4, hb4, hq4, ho4, hall⟩ := hrel
        clear hr3 hB3 hb3
        by_cases hkn : k < n
        · have hU4 := Lib.hid (hU.out wr g (10 + 2 * k) b4 hr4.out)
          rw [htk.out (10 + 2 * k) (by omega)] at hU4
          have hnk := hnr.out (bs.drop (10 + 2 * k))
          have hak := hna.out k hkn
          have htk1 := Lib.hid (hnt.out k hkn)
          have hdd : (bs.drop 10).drop (2 * k) = bs.drop (10 + 2 * k) := List.drop_drop
          rw [hdd] at hak htk1
          obtain ⟨x, hxx⟩ : ∃ x, Hid (numP ((bs.drop (10 + 2 * k)).take 2) = x) := ⟨_, Lib.hid rfl⟩
          rw [hxx.out] at hnk hak htk1
          have hak := Lib.hid hak
          have hgk : ∀ j, (Value.slice A4 k c4).ownBlock = some j → j ≠ g := fun j hj e => by
            obtain ⟨cs, hb⟩ := own_kindI ho4.out hj
            subst e
            exact absurd rfl (hb.ne_ hr4.out.blk (by decide))
          have hgk := Lib.hid hgk
          clear hr4 hdd
          go_wp2_with fail
          refine hU4.out.mono ?_
          rintro e w5 ⟨b5, rfl, hr5, hc5, hbb5⟩
          dsimp only at hr5
          rw [hxx.out]
          have hr5 : Hid (Rdr w5 g b5 (bs.drop (10 + 2 * (k + 1))) 0) := hr5
          have hB5 : Hid (Below w.heap.size w w5) := hB4.out.trans (hc5.below hB4.out.size (fun k hk => by subst hk; exact hg.out))
          have hb5 : Hid (∀ k, b5.ownBlock = some k → k < q0) := by show ∀ _, _; rw [hbb5]; exact hb4.out
          have hq5 : Hid (q0 ≤ w5.heap.size) := Nat.le_trans hq4.out hc5.size
          have ho5 : Hid (w5.ownsRow q0 3 1 (.slice A4 k c4) k (nvs (ns.take k))) := own_chgI ho4.out hc5 (fun j hj e => hgk.out j hj e)
          clear hU4 hc5 hbb5 hB4 hb4 ho4 hxx
          by_cases hxN : N ≤ x
          · have hRn : Hid (R = none) := by
              show _ = _
              rw [← hR3.out, if_neg]
              intro h
              have := List.all_eq_true.1 h x (List.mem_of_getElem? hak.out)
              simp at this
              omega
            clear hR3
            go_wp2
            go_ret2
            rw [hRn.out]
            exact ⟨_, _, rfl, hB5.out, rfl⟩
          · have hall2 : Hid (∀ y ∈ ns.take (k + 1), y < N) := fun y hy => by
              rw [htk1.out, List.mem_append, List.mem_singleton] at hy
              rcases hy with hy | rfl
              · exact hall.out y hy
              · omega
            have hrow2 := Lib.hid (World.ownsRow.alloc ho5.out (.cells #[.int .i64 (x : Int)] 3))
            have hrd2 : Hid (Rd (w5.alloc (.cells #[.int .i64 (x : Int)] 3)) (.slice (some ⟨w5.heap.size, 0, none⟩) 1 1) [.int .i64 (x : Int)]) := rd_new w5 [.int .i64 (x : Int)] 3 1 rfl
            have hszB := hB5.out.size
            have hszq := hq5.out
            have hqw := hq.out
            clear hak hall hR3
            go_wp2_with (at_builtin; refine stop_app rfl ?_)
            refine Stop.mk (wpList_app _ rfl rfl (us := [.int .i64 (x : Int)]) (base := q0) Try.underlying22 hi hz0 hz1 hz2 rfl hrow2.out rfl hrd2.out rfl (by intro u hu; simp at hu; subst hu; rfl) ?_ ?_ (by rw [World.size_alloc]; omega) ?_)
            · unfold maxLen; simp only [List.length_cons, List.length_nil]; omega
            · simp only [List.length_cons, List.length_nil]; omega
            intro v9 w9 hown hg9 hat
            have hown : w9.ownsRow q0 3 1 v9 (k + 1) (nvs (ns.take (k + 1))) := by
              rw [htk1.out]
              unfold nvs at *
              rw [List.map_append]
              exact hown
            obtain ⟨A9, c9, rfl⟩ := own_shape hown
            have hB9 := Lib.hid ((hB5.out.alloc hszB (.cells #[.int .i64 (x : Int)] 3)).grown hg9 (by rw [World.size_alloc]; omega) (fun j hj => Nat.le_trans hqw (own_geI hrow2.out j hj)))
            have hq9 : Hid (q0 ≤ w9.heap.size) := Nat.le_trans hszq (Nat.le_trans (by rw [World.size_alloc]; omega) hg9.size)
            have hr9 : Hid (Rdr w9 g b5 (bs.drop (10 + 2 * (k + 1))) 0) := by
              have h1 := hr5.out.below ((Below.refl w5.heap.size w5).alloc (Nat.le_refl _) (.cells #[.int .i64 (x : Int)] 3))
              refine h1.chg ((Chg.refl (fun j => (Value.slice A4 k c4).ownBlock = some j) _).grown hg9 (fun j hj _ => hj)) (fun hj => hgk.out g hj rfl) (fun j hj hj2 => ?_)
              have h1 := hb5.out j hj
              have h2 := own_geI hrow2.out j hj2
              omega
            have hown := Lib.hid hown
            clear hg9 hat hrow2 hrd2 hszB hr5 hB5 ho5 htk1
            go_wp2
            go_roundw
            case rel => exact ⟨k + 1, b5, A9, c9, by omega, rfl, by go_num, hr9, hB9, hb5, hq9, hown, hall2⟩
            case measure => simp [RowKit.intOf]; omega
        · obtain rfl : k = n := by omega
          have hRs : Hid (R = some ns) := by
            show _ = _
            have hh := hall.out
            rw [← hnl.out, List.take_length] at hh
            rw [← hR3.out, if_pos (List.all_eq_true.2 fun y hy => by simp; exact hh y hy)]
          have hfin : Hid (wr.ownsRow w.heap.size 3 1 (.slice A4 k c4) ns.length (nvs ns)) := by
            have := own_baseI ho4.out hq.out
            rw [← hnl.out, List.take_length] at this
            show World.ownsRow _ _ _ _ _ _ _
            rw [hnl.out] at this ⊢
            exact this
          clear hR3 ho4 hall
          go_wp2
          go_ret2
          rw [hRs.out]
          exact ⟨_, _, rfl, hB4.out, rfl, hfin.out⟩
  · have hRn : Hid (R = none) := by
      show _ = _
      rw [← hR.out]
      unfold headsP
      rw [if_pos hm]
    have hne : ((⟨(bs.take 8).toArray⟩ : ByteArray).toList == [109, 97, 105, 108, 98, 97, 103, 49]) = false := by
      rw [ByteArray.toList_mk]
      exact beq_eq_false_iff_ne.2 hm
    generalize (bs.take 8).toArray = q at *
    clear hR
    go_wp2
    go_ret2
    rw [hRn.out]
    exact ⟨_, _, rfl, hB2.out, rfl⟩
end Go.Proofs.Ytefbmbfhhhjgkaa
