/- The walk of BlockSynced. -/
import Derived.Test.YtjldjfipacagdaaBsy
namespace Go.Proofs.Ytjldjfipacagdaa
open Go.RowKit
theorem Try.info_bool : (Try.prog.info? 4).map (fun i => (i.zero, i.size, i.bytes)) = some (some (.bool false), 1, 1) := by kernel_rfl
theorem run_slice2 {P : Program} (w : World) (t e : TypeId) (i : TypeInfo) (ht : P.underlying t = some (.slice e)) (hi : P.info? e = some i) (hs : i.size = 1) (A : Option Addr) (len cap l h : Nat) {x y : Int} (hx : x = l) (hy : y = h) (h1 : l ≤ h) (h2 : h ≤ cap) (h4 : l < cap) :
    (Instr.slice t (.slice A len cap) (some (.int .i64 x)) (some (.int .i64 y)) none).run P w = .ok (.slice (A.map (·.add l)) (h - l) (cap - l)) w := by
  subst hx hy
  have b2 : (0 : Int) ≤ (h : Int) ∧ (h : Int) ≤ (cap : Int) := by omega
  have b3 : (0 : Int) ≤ (l : Int) ∧ (l : Int) ≤ (h : Int) := by omega
  have b4 : ¬ (cap = l) := by omega
  simp [Instr.slice, Instr.sliceBounds, Instr.sliceBound, run_underlying ht, sizeOf, typeInfo, hi, hs, asIntOf, h1, h2, b4]
def bls (l : List Bool) : Array Value := (l.map Value.bool).toArray
theorem bls_set (l : List Bool) (k : Nat) : (bls l).setIfInBounds k (.bool true) = bls (l.set k true) := by
  unfold bls
  simp [List.map_set]
theorem Rd.some_ {w : World} {v : Value} {bs : List UInt8} (h : Rd w v (bvs bs)) (hn : 0 < bs.length) : ∃ ad c, v = .slice (some ad) bs.length c := by
  obtain ⟨ad, c, e, _⟩ := h.at8 hn
  exact ⟨ad, c, e⟩
theorem Rd.own_lt {w : World} {v : Value} {us : List Value} (h : Rd w v us) (hne : us ≠ []) {j : Nat} (hj : v.ownBlock = some j) : j < w.heap.size := by
  obtain ⟨A, c, rfl, _, hr⟩ := h
  obtain ⟨ad, rfl, hc⟩ := hr hne
  cases us with
  | nil => exact absurd rfl hne
  | cons u r =>
    have := World.block_lt_of_cell? w _ (hc 0 u rfl)
    rw [addr_add_block] at this
    simp [Value.ownBlock] at hj
    omega
theorem DK.not_ {w : World} {g : Nat} {d : Dk} {S : Nat → Prop} (h : DK w g d S) {t : TypeId} (h1 : t ≠ 62) (h2 : t ≠ 22) : ∀ k cs, Blk w k t cs → ¬ S k := fun k cs hb hf => by
  rcases h.kind hf hb with e | e
  · exact h1 e
  · exact h2 e
theorem imgP_len {w : World} {g : Nat} {d : Dk} {S : Nat → Prop} (h : DK w g d S) : (imgP d).length = d.l.length * 512 := imgK_len h _ (Nat.le_refl _)
theorem Sw.ll {L : List (List UInt8)} {wro : List Bool} {B : Nat} {d : Dk} (h : Sw L wro B d) : d.l.length = 8 := h.sy.ok.ll
theorem getD_bls (l : List Bool) (k : Nat) (h : k < l.length) : (bls l)[k]? = some (.bool (l.getD k false)) := by
  unfold bls
  simp [List.getD_eq_getElem?_getD, List.getElem?_eq_getElem h]
set_option maxRecDepth 100000 in
set_option maxHeartbeats 16000000 in
theorem BlockSynced_calls (w : World) {x0 : Value} {l0 : List ActV} (xx0 : RdA w x0 l0) (ll0 : l0.length ≤ 9223372036854775807) {x1 : Value} {l1 : List ActV} (xx1 : RdA w x1 l1) (ll1 : l1.length ≤ 9223372036854775807)
    {x2 : Value} {ys2 : List Int} (xx2 : Rd w x2 (ys2.map (Value.int .i64))) (ll2 : ys2.length ≤ 9223372036854775807) (ww2 : ∀ n ∈ ys2, (Lit.int .i64 n).wf = true) :
    Calls Try.prog 5 #[x0, x1, x2] w fun e w' => e = .returned (.bool true) ∧ Below w.heap.size w w' := by
  clear ww2
  have hFewA := fun (W : World) (hB : Below w.heap.size w W) => Few_calls W x0 l0 (xx0.below hB) ll0
  have hFewB := fun (W : World) (hB : Below w.heap.size w W) => Few_calls W x1 l1 (xx1.below hB) ll1
  obtain ⟨A0, c0, rfl⟩ := xx0.shape
  obtain ⟨A1, c1, rfl⟩ := xx1.shape
  obtain ⟨A2, c2, rfl⟩ : ∃ A c, x2 = .slice A ys2.length c := by
    obtain ⟨A, c, e, _⟩ := xx2
    exact ⟨A, c, by rw [e, List.length_map]⟩
  have hx0 := Lib.hid xx0
  have hx1 := Lib.hid xx1
  have hx2 : Hid (Rd w (.slice A2 ys2.length c2) (ivs ys2)) := xx2
  clear xx0 xx1 xx2
  cases hf0 : fewB l0
  · rw [hf0] at hFewA
    have hFew0 := Lib.hid hFewA
    clear hFewA hFewB hf0
    go_enter Try.func5, Try.ntmps5
    go_wp2_with fail
    refine (known_calls w).mono ?_
    rintro e w1 ⟨rfl, hB1⟩
    go_wp2_with fail
    refine (hFew0.out w1 hB1).mono ?_
    rintro e w2 ⟨rfl, rfl⟩
    go_wp2
    go_ret
    exact ⟨rfl, hB1⟩
  rw [hf0] at hFewA
  have hFew0 := Lib.hid hFewA
  cases hf1 : fewB l1
  · rw [hf1] at hFewB
    have hFew1 := Lib.hid hFewB
    clear hFewA hFewB hf0 hf1
    go_enter Try.func5, Try.ntmps5
    go_wp2_with fail
    refine (known_calls w).mono ?_
    rintro e w1 ⟨rfl, hB1⟩
    go_wp2_with fail
    refine (hFew0.out w1 hB1).mono ?_
    rintro e w2 ⟨rfl, rfl⟩
    go_wp2_with fail
    refine (hFew1.out w1 hB1).mono ?_
    rintro e w2 ⟨rfl, rfl⟩
    go_wp2
    go_ret
    exact ⟨rfl, hB1⟩
  rw [hf1] at hFewB
  have hFew1 := Lib.hid hFewB
  by_cases hg4 : 100 < ys2.length
  · clear hFewA hFewB hf0 hf1
    go_enter Try.func5, Try.ntmps5
    go_wp2_with fail
    refine (known_calls w).mono ?_
    rintro e w1 ⟨rfl, hB1⟩
    go_wp2_with fail
    refine (hFew0.out w1 hB1).mono ?_
    rintro e w2 ⟨rfl, rfl⟩
    go_wp2_with fail
    refine (hFew1.out w1 hB1).mono ?_
    rintro e w2 ⟨rfl, rfl⟩
    go_wp2
    go_ret
    exact ⟨rfl, hB1⟩
  have hy100 : ys2.length ≤ 100 := by omega
  have hl0 : l0.length ≤ 150 := fewB_len hf0
  have hl1 : l1.length ≤ 150 := fewB_len hf1
  have hat0 := Lib.hid (fun k (hk : k < l0.length) => fewB_at hf0 hk)
  have hat1 := Lib.hid (fun k (hk : k < l1.length) => fewB_at hf1 hk)
  clear hFewA hFewB hf0 hf1 hg4
  go_enter Try.func5, Try.ntmps5
  go_wp2_with fail
  refine (known_calls w).mono ?_
  rintro e w0 ⟨rfl, hB0⟩
  go_wp2_with fail
  refine (hFew0.out w0 hB0).mono ?_
  rintro e w2 ⟨rfl, rfl⟩
  go_wp2_with fail
  refine (hFew1.out w0 hB0).mono ?_
  rintro e w2 ⟨rfl, rfl⟩
  clear hFew0 hFew1
  go_wp2_with fail
  refine (New_calls w0 8).mono ?_
  intro e w1 h
  obtain ⟨g, S, rfl, hdk, hb, hn⟩ := h.ok (by omega)
  have hs1 := Lib.hid (St.made hB0 hdk hb hn)
  clear h hdk hb hn hB0
  have hsy1 : Hid (Sy 8 0 (newD (8 : Int).toNat)) := ⟨⟨rfl, rfl, Nat.le_refl _, by show (0 : Int) ≤ _; omega, Nat.zero_le _⟩, rfl, rfl⟩
  go_wp2
  go_loopw [9] (fun i wr => ∃ (k : Nat) (S' : Nat → Prop) (d : Dk), k ≤ l0.length ∧ i = .int .i64 k ∧ Hid (St w wr g d S') ∧ Hid (Sy 8 k d)) (fun i _ => l0.length - (RowKit.intOf i).toNat)
  case atStart => exact ⟨0, S, _, Nat.zero_le _, rfl, hs1, hsy1⟩
  case round =>
    obtain ⟨k, S', d, hk, rfl, hs, hsy⟩ := hrel
    clear hs1 hsy1
    by_cases hlt : k < l0.length
    · obtain ⟨ad, rfl, e0, e1, e2, e3⟩ := hx0.out.at_ hlt
      obtain ⟨hab, _, _, _, _, _⟩ := hx0.out.2 _ (List.getElem_mem hlt)
      obtain ⟨hb512, _⟩ := hat0.out k hlt
      generalize l0[k] = a at *
      obtain ⟨aop, an, abv, ab, apv, ap⟩ := a
      simp only at e0 e1 e2 e3 hab hb512
      obtain ⟨bA, bc, rfl⟩ := hab.shape8
      have hl1' := World.block_lt_of_cell? w _ e1
      have hl0' := World.block_lt_of_cell? w _ e0
      have d0 := (hs.out.below.cell hl0').trans e0
      have hl1 : (ad.add (k * 4)).block < w.heap.size := hl1'
      have hl2 : (ad.add (k * 4)).block < w.heap.size := hl1'
      have hbr : Hid (Rd wr.drew (.slice bA ab.length bc) (bvs ab)) := (hab.below hs.out.below).drew
      clear e0 e3 hab hl0' hl1'
      by_cases h1 : aop = 1
      · subst h1
        go_wp2_with fail
        refine wp_mixs (fun W => Below w.heap.size w W) [11, 12] (by kernel_rfl) (by kernel_rfl) (by kernel_rfl) (by decide) (show Below w.heap.size w wr.drew from hs.out.below.drew) ?_
        iterate 11 ((first | refine mixsq rfl rfl 0 (by decide +kernel) ?_ (fun w' hw' => Or.inl ?_) (fun K hK => ?_) | refine mixsq rfl rfl 1 (by decide +kernel) ?_ (fun w' hw' => Or.inl ?_) (fun K hK => ?_) | refine mixsq rfl rfl 2 (by decide +kernel) ?_ (fun w' hw' => Or.inl ?_) (fun K hK => ?_) | refine mixsq rfl rfl 3 (by decide +kernel) ?_ (fun w' hw' => Or.inl ?_) (fun K hK => ?_) | refine mixsq rfl rfl 4 (by decide +kernel) ?_ (fun w' hw' => Or.inl ?_) (fun K hK => ?_) | refine mixsq rfl rfl 5 (by decide +kernel) ?_ (fun w' hw' => Or.inl ?_) (fun K hK => ?_) | refine mixsq rfl rfl 6 (by decide +kernel) ?_ (fun w' hw' => Or.inl ?_) (fun K hK => ?_)); rotate_left; (focus (have hb : Below w.heap.size w w' := hw'; have c1 := (hb.cell (p := ⟨(ad.add (k * 4)).block, (ad.add (k * 4)).off + 1, none⟩) hl1).trans e1; have c2 := (hb.cell (p := ⟨(ad.add (k * 4)).block, (ad.add (k * 4)).off + 2, none⟩) hl2).trans e2; go_simp; rfl)); go_simp; refine hK _ ?_; clear hK K)
        refine mixsl rfl rfl (fun K hK => ?_)
        go_simp
        refine (Full_calls wr.drew (.slice bA ab.length bc) ab hbr.out (by omega)).mono ?_
        rintro e wa ⟨r, rfl, ho, hBa, _⟩
        have hBa : Below wr.heap.size wr wa := ⟨hBa.os, hBa.tape, hBa.output, hBa.size, hBa.block⟩
        have hsa := hs.out.go hBa
        refine hK (fun W => Below w.heap.size w W) _ _ (fun _ => ⟨hsa.below, fun _ => hsa.below⟩) ?_
        clear hK K
        refine mixsl rfl rfl (fun K hK => ?_)
        go_simp
        refine (Write_calls wa g d S' hsa.dk an r (fullP ab) (Rd.of_own ho) (hsa.not8 ho) (by rw [fullP_len]; omega) (by rw [hsy.out.ok.ll]; omega) (by have := hsy.out.ok.wt; omega) hsy.out.ok.ar (by have := hsy.out.ok.pk; omega)).mono ?_
        rintro e wb ⟨rfl, hw⟩
        obtain ⟨S3, hs3, _, _⟩ := hsa.wrote hw
        refine hK (fun W => Below w.heap.size w W) _ _ (fun _ => ⟨hs3.below, ext_all (fun _ => hs3.below) hs3.below⟩) ?_
        clear hK K
        refine mixs_nil ?_
        have hs3h := Lib.hid hs3
        have hsyh := Lib.hid (hsy.out.write an (fullP ab) (fullP_len ab)).1
        clear hw hsa ho hs3 hs hsy
        go_wp2
        go_roundw
        case rel => exact ⟨k + 1, S3, _, by omega, by go_num, hs3h, hsyh⟩
        case measure => simp [RowKit.intOf]; omega
      · have e1' : ((aop : Int) == 1) = false := beq_eq_false_iff_ne.2 h1
        have hsy2 : Hid (Sy 8 (k + 1) d) := ⟨hsy.out.ok.mono (Nat.le_succ _), hsy.out.off, hsy.out.arm⟩
        clear h1 e1 e2
        go_wp2
        go_roundw
        case rel => exact ⟨k + 1, S', d, by omega, by go_num, hs, hsy2⟩
        case measure => simp [RowKit.intOf]; omega
    · obtain rfl : k = l0.length := by omega
      have hsy0 := hsy.out
      have hSyn := Lib.hid (Sync_calls wr g d S' hs.out.dk hsy0.off (by rw [hsy0.ok.ll]; omega) (by have := hsy0.ok.wt; omega))
      have hsw0 := Lib.hid (Sw.start hsy0)
      clear hsy hsy0
      go_wp2_with fail
      refine hSyn.out.mono ?_
      rintro e w3 ⟨rfl, hw⟩
      obtain ⟨S3, hs3, _, _⟩ := hs.out.wrote hw
      have hs3h := Lib.hid hs3
      clear hSyn hw hs3 hs
      obtain ⟨d2, hd2⟩ : ∃ d2, d2 = syncD d := ⟨_, rfl⟩
      rw [← hd2] at hs3h hsw0
      clear hd2
      have hlast0 := Lib.hid (fun n (hn : n < d2.l.length) => lastP_len hs3h.out.dk hn)
      have himl := imgP_len hs3h.out.dk
      rw [hsw0.out.ll] at himl
      have hImg := Lib.hid (Image_calls w3 g d2 S3 hs3h.out.dk (by rw [hsw0.out.ll]; omega) (by have := hsw0.out.sy.ok.wt; omega))
      have himh := Lib.hid himl
      clear himl
      go_wp2_with fail
      refine hImg.out.mono ?_
      rintro e w4 ⟨wv, rfl, hwr, hB4⟩
      obtain ⟨wad, wc, e⟩ := hwr.1.some_ (by rw [himh.out]; omega)
      rw [himh.out] at e
      subst e
      have hs4h := Lib.hid (hs3h.out.go hB4)
      have hwrh := Lib.hid hwr
      clear hImg hB4 hs3h hwr
      obtain ⟨ib, hi, hz0, hz1, hz2⟩ := info_parts Try.info_bool
      have hmk := run_mkr (P := Try.prog) 45 4 ib (.bool false) Try.underlying45 hi hz0 rfl hz1 8 (by rw [hz2]; omega) (by omega) w4
      have hmk1 : Sem.run Try.prog (Instr.makeSlice 45 (.int .i64 8) (.int .i64 8)) w4 = .ok (.slice (some ⟨w4.heap.size, 0, none⟩) 8 8) (w4.alloc (.cells (bls (List.replicate 8 false)) 4)) := hmk
      have hbl0 : Blk (w4.alloc (.cells (bls (List.replicate 8 false)) 4)) w4.heap.size 4 (bls (List.replicate 8 false)) := Blk.new _ _ _
      have hBw : Below w4.heap.size w4 (w4.alloc (.cells (bls (List.replicate 8 false)) 4)) := alloc_below _ _
      have hs5h := Lib.hid (hs4h.out.go hBw)
      have hwr5 := Lib.hid (hwrh.out.below hBw)
      have hgw : Hid (w.heap.size ≤ w4.heap.size) := hs4h.out.below.size
      generalize hwe : w4.alloc (.cells (bls (List.replicate 8 false)) 4) = w5 at *
      generalize w4.heap.size = gw at *
      have hbl0h := Lib.hid hbl0
      clear hmk hi hz0 hz1 hz2 hwe hbl0 hBw hs4h hwrh
      have hLp : Hid (∀ n, n < 8 → ((imgP d2).drop (n * 512)).take 512 = d2.l.getD n []) := fun n hn => by
        rw [img_piece hlast0.out (by rw [hsw0.out.ll]; exact hn)]
        exact lastP_nil (hsw0.out.no n hn (by rw [List.getD_eq_getElem?_getD, List.getElem?_replicate]; split <;> rfl))
      have him4 : Hid ((imgP d2).length = 4096) := himh
      generalize imgP d2 = im at *
      generalize d2.l = L at *
      clear himh hlast0
      go_wp2
      go_loopw [12, 13] (fun i _ wr => ∃ (k : Nat) (S' : Nat → Prop) (d : Dk) (wro : List Bool), k ≤ l1.length ∧ i = .int .i64 k ∧ Hid (St w wr g d S') ∧ Hid (Sw L wro k d) ∧ Hid (Blk wr gw 4 (bls wro)) ∧ Hid (RdT 5 wr (.slice (some wad) 4096 wc) (bvs im))) (fun i _ _ => l1.length - (RowKit.intOf i).toNat)
      case atStart => exact ⟨0, S3, _, _, Nat.zero_le _, rfl, hs5h, hsw0, hbl0h, hwr5⟩
      case round =>
        obtain ⟨k, S', d, wro, hk, rfl, hs, hsw, hbl, hwt⟩ := hrel
        clear hs5h hsw0 hbl0h hwr5 hmk1
        by_cases hlt : k < l1.length
        · obtain ⟨ad, rfl, e0, e1, e2, e3⟩ := hx1.out.at_ hlt
          obtain ⟨hab, _, _, _, _, _⟩ := hx1.out.2 _ (List.getElem_mem hlt)
          obtain ⟨hb512, _⟩ := hat1.out k hlt
          generalize l1[k] = a at *
          obtain ⟨aop, an, abv, ab, apv, ap⟩ := a
          simp only at e0 e1 e2 e3 hab hb512
          obtain ⟨bA, bc, rfl⟩ := hab.shape8
          have hl1' := World.block_lt_of_cell? w _ e1
          have hl0' := World.block_lt_of_cell? w _ e0
          have d0 := (hs.out.below.cell hl0').trans e0
          have d1 := (hs.out.below.cell hl1').trans e1
          have hl1 : (ad.add (k * 4)).block < w.heap.size := hl1'
          have hl2 : (ad.add (k * 4)).block < w.heap.size := hl1'
          have d2 := (hs.out.below.cell (p := ⟨(ad.add (k * 4)).block, (ad.add (k * 4)).off + 2, none⟩) hl2).trans e2
          have hbr : Hid (Rd wr (.slice bA ab.length bc) (bvs ab)) := hab.below hs.out.below
          have hswn : Hid (Sw L wro (k + 1) d) := ⟨⟨hsw.out.sy.ok.mono (Nat.le_succ _), hsw.out.sy.off, hsw.out.sy.arm⟩, hsw.out.l, hsw.out.wl, hsw.out.no⟩
          clear e0 e3 hab hl0' hl1'
          by_cases h1 : aop = 1
          · subst h1
            by_cases h0 : 0 ≤ an
            · obtain ⟨n, rfl⟩ : ∃ n : Nat, an = (n : Int) := ⟨an.toNat, by omega⟩
              by_cases h8 : n < 8
              · clear hswn
                have h8i : (n : Int) < 8 := by omega
                go_wp2_with fail
                refine (Full_calls wr (.slice bA ab.length bc) ab hbr.out (by omega)).mono ?_
                rintro e wa ⟨r, rfl, ho, hBa, _⟩
                have hsa := hs.out.go hBa
                have hbla := hbl.out.chg (Chg.of_below (S := fun _ => False) hBa) (fun h => h)
                have hwta := hwt.out.below hBa
                have hok := hsw.out.sy.ok
                have hWr := Lib.hid (Write_calls wa g d S' hsa.dk n r (fullP ab) (Rd.of_own ho) (hsa.not8 ho) (by rw [fullP_len]; omega) (by rw [hok.ll]; omega) (by have := hok.wt; omega) hok.ar (by have := hok.pk; omega))
                go_wp2_with fail
                refine hWr.out.mono ?_
                rintro e wb ⟨rfl, hw⟩
                obtain ⟨S3, hs3, hch, _⟩ := hsa.wrote hw
                have hblb := hbla.chg hch (fun h => hsa.dk.not_ (by decide) (by decide) _ _ hbla h)
                have hwtb := hwta.chg hch (hsa.dk.not_ (by decide) (by decide))
                have hsw3 := Lib.hid (hsw.out.write n h8 (fullP ab) (fullP_len ab))
                have hwl := hsw.out.wl
                have hcell : wb.cell? ⟨gw, n, none⟩ = some (.bool (wro.getD n false)) := (hblb.cell n).trans (getD_bls wro n (by omega))
                have hfz := hblb.frozen n
                have hset := hblb.set_ n (.bool true)
                rw [bls_set] at hset
                have hcs : Chg (fun j => j = gw) wb (wb.setCell ⟨gw, n, none⟩ (.bool true)) := (Chg.refl (fun j => j = gw) wb).setCell (p := ⟨gw, n, none⟩) (fun _ => rfl) _
                have hbs : Below gw wb (wb.setCell ⟨gw, n, none⟩ (.bool true)) := hcs.below (Nat.le_of_lt hblb.lt) (fun j hj => by omega)
                have hs4h : Hid (St w (wb.setCell ⟨gw, n, none⟩ (.bool true)) g (writeP d (n : Int) (fullP ab)).2 S3) := ⟨hs3.dk.chg hcs (fun j hj hjg => by subst hjg; exact hs3.dk.not_ (by decide) (by decide) _ _ hblb hj) (fun j cs hb hj => by subst hj; cases hblb.symm.trans hb) (fun j cs hb hj => by subst hj; cases hblb.symm.trans hb), hs3.new, hs3.below.trans (hbs.mono hgw.out)⟩
                have hwt4 : Hid (RdT 5 (wb.setCell ⟨gw, n, none⟩ (.bool true)) (.slice (some wad) 4096 wc) (bvs im)) := hwtb.far (fun cs hb => by cases hblb.symm.trans hb) _
                have hset4 := Lib.hid hset
                clear hw hsa ho hs3 hs hsw hbl hwt hbla hwta hwtb hch hblb hset hcs hbs hok hwl hWr hbr
                go_wp2
                go_roundw
                case rel => exact ⟨k + 1, S3, _, _, by omega, by go_num, hs4h, hsw3, hset4, hwt4⟩
                case measure => simp [RowKit.intOf]; omega
              · have h8i : ¬ ((n : Int) < 8) := by omega
                clear e1 e2
                go_wp2
                go_roundw
                case rel => exact ⟨k + 1, S', d, wro, by omega, by go_num, hs, hswn, hbl, hwt⟩
                case measure => simp [RowKit.intOf]; omega
            · clear e1 e2
              go_wp2
              go_roundw
              case rel => exact ⟨k + 1, S', d, wro, by omega, by go_num, hs, hswn, hbl, hwt⟩
              case measure => simp [RowKit.intOf]; omega
          · have e1' : ((aop : Int) == 1) = false := beq_eq_false_iff_ne.2 h1
            clear h1 e1 e2
            go_wp2
            go_roundw
            case rel => exact ⟨k + 1, S', d, wro, by omega, by go_num, hs, hswn, hbl, hwt⟩
            case measure => simp [RowKit.intOf]; omega
        · obtain rfl : k = l1.length := by omega
          have hno := Lib.hid (fun p n (hn : n < 8) (hf : wro.getD n false = false) => hsw.out.piece p hn hf)
          have hswl := hsw.out.wl
          have hCut := Lib.hid (Cut_calls wr g d S' hs.out.dk hsw.out.sy.off (by rw [hsw.out.ll]; omega) (by have := hsw.out.sy.ok.wt; omega) (.slice A2 ys2.length c2) ys2 (hx2.out.below hs.out.below) (fun hne j hj hS => by
            have hlt := hx2.out.own_lt (fun h => hne (List.map_eq_nil_iff.1 h)) hj
            have := hs.out.new j hS
            omega) (by omega))
          go_wp2_with fail
          refine hCut.out.mono ?_
          rintro e w6 ⟨rfl, hw⟩
          obtain ⟨S4, hs4, hch, _⟩ := hs.out.wrote hw
          have hbl6 := hbl.out.chg hch (fun h => hs.out.dk.not_ (by decide) (by decide) _ _ hbl.out h)
          have hwt6 := hwt.out.chg hch (hs.out.dk.not_ (by decide) (by decide))
          have hs4h := Lib.hid hs4
          have hbl6h := Lib.hid hbl6
          have hwt6h := Lib.hid hwt6
          clear hCut hw hs4 hch hbl6 hwt6 hs hbl hwt
          go_wp2_with fail
          refine (On_calls w6 g _ S4 hs4h.out.dk).mono ?_
          rintro e w7 ⟨rfl, hw⟩
          obtain ⟨S5, hs5, hch, _⟩ := hs4h.out.wrote hw
          have hbl7 := hbl6h.out.chg hch (fun h => hs4h.out.dk.not_ (by decide) (by decide) _ _ hbl6h.out h)
          have hwt7 := hwt6h.out.chg hch (hs4h.out.dk.not_ (by decide) (by decide))
          have hll : (onD (cutD d ys2)).l.length = 8 := (hsw.out.sy.ok.cut ys2).ll
          have hwl7 : waitP (onD (cutD d ys2)) = 0 := waitP_cut d ys2
          have hno7 : Hid (∀ n, n < 8 → wro.getD n false = false → lastP (onD (cutD d ys2)) n = L.getD n []) := fun n => hno.out ys2 n
          have hoff7 : (onD (cutD d ys2)).off = false := rfl
          generalize onD (cutD d ys2) = d7 at *
          have hlast7 := Lib.hid (fun n (hn : n < d7.l.length) => lastP_len hs5.dk hn)
          have himl := imgP_len hs5.dk
          rw [hll] at himl
          have himh := Lib.hid himl
          have hImg := Lib.hid (Image_calls w7 g d7 S5 hs5.dk (by rw [hll]; omega) (by rw [hwl7]; omega))
          have hs5h := Lib.hid hs5
          have hbl7h := Lib.hid hbl7
          have hwt7h := Lib.hid hwt7
          have hllh := Lib.hid hll
          have hwl7h := Lib.hid hwl7
          have hoff7h := Lib.hid hoff7
          clear hw hs5 hch hbl7 hwt7 himl hll hwl7 hoff7 hs4h hbl6h hwt6h hno hsw
          go_wp2_with fail
          refine hImg.out.mono ?_
          rintro e w8 ⟨gv, rfl, hgt, hB8⟩
          obtain ⟨gad, gc, e⟩ := hgt.1.some_ (by rw [himh.out]; omega)
          rw [himh.out] at e
          subst e
          have hgcap : 4096 ≤ gc := by
            obtain ⟨A', c', e, hl, _⟩ := hgt.1
            injection e with _ _ e3
            rw [bvs_length, himh.out] at hl
            omega
          have hwcap : 4096 ≤ wc := by
            obtain ⟨A', c', e, hl, _⟩ := hwt7h.out.1
            injection e with _ _ e3
            rw [bvs_length, him4.out] at hl
            omega
          have hs8h := Lib.hid (hs5h.out.go hB8)
          have hgth : Hid (Rd w8 (.slice (some gad) 4096 gc) (bvs (imgP d7))) := hgt.1
          have hwth := Lib.hid (hwt7h.out.below hB8).1
          have hblh := Lib.hid (hbl7h.out.chg (Chg.of_below (S := fun _ => False) hB8) (fun h => h))
          have hGp : Hid (∀ n, n < 8 → wro.getD n false = false → ((imgP d7).drop (n * 512)).take 512 = L.getD n []) := fun n hn hf => by
            rw [img_piece hlast7.out (by rw [hllh.out]; exact hn)]
            exact hno7.out n hn hf
          have hgl : Hid ((imgP d7).length = 4096) := himh
          have hwol := Lib.hid hswl
          generalize imgP d7 = ig at *
          clear hImg hB8 hgt hs5h hbl7h hwt7h himh hlast7 hno7
          go_wp2
          go_loopw [15, 16] (fun i _ W => ∃ (k : Nat), k ≤ 8 ∧ i = .int .i64 k ∧ Hid (Below w8.heap.size w8 W)) (fun i _ _ => 8 - (RowKit.intOf i).toNat)
          case atStart => exact ⟨0, by omega, rfl, Below.refl _ _⟩
          case round =>
            obtain ⟨k, hk, rfl, hBr⟩ := hrel
            by_cases hlt8 : k < 8
            · have hgk := Lib.hid (rd_mid (m := 512) hgth.out (k := k * 512) (by rw [hgl.out]; omega))
              have hwk := Lib.hid (rd_mid (m := 512) hwth.out (k := k * 512) (by rw [him4.out]; omega))
              obtain ⟨ib2, hi2, _, hz21, _⟩ := info_parts Try.info_u8
              have hsl : ∀ (W : World) (ad : Addr) (c : Nat), 4096 ≤ c → Sem.run Try.prog (Instr.slice 22 (.slice (some ad) 4096 c) (some (.int .i64 ((k : Int) * 512))) (some (.int .i64 (((k : Int) + 1) * 512))) none) W = .ok (.slice (some (ad.add (k * 512))) 512 (c - k * 512)) W := by
                intro W ad c hc
                have := run_slice2 (P := Try.prog) W 22 5 ib2 Try.underlying22 hi2 hz21 (some ad) 4096 c (k * 512) ((k + 1) * 512) (x := (k : Int) * 512) (y := ((k : Int) + 1) * 512) (by omega) (by omega) (by omega) (by omega) (by omega)
                rw [show (k + 1) * 512 - k * 512 = 512 by omega] at this
                exact this
              have hslg := fun W => hsl W gad gc hgcap
              have hslw := fun W => hsl W wad wc hwcap
              have hsame : Hid (wro.getD k false = false → (ig.drop (k * 512)).take 512 = (im.drop (k * 512)).take 512) := fun hf => (hGp.out k hlt8 hf).trans (hLp.out k hlt8).symm
              have hcb := getD_bls wro k (by rw [hwol.out]; exact hlt8)
              have hc0 : wr.cell? ⟨gw, k, none⟩ = some (.bool (wro.getD k false)) := (hBr.out.cell hblh.out.lt).trans ((hblh.out.cell k).trans hcb)
              generalize (ig.drop (k * 512)).take 512 = Gk at *
              generalize (im.drop (k * 512)).take 512 = Wk at *
              generalize wro.getD k false = wk at *
              have e1 : IntKind.i64.wrap ((k : Int) * 512) = (k : Int) * 512 := by rw [IntKind.wrap_i64]; omega
              have e2 : IntKind.i64.wrap ((k : Int) + 1) = (k : Int) + 1 := by rw [IntKind.wrap_i64]; omega
              have e3 : IntKind.i64.wrap (((k : Int) + 1) * 512) = ((k : Int) + 1) * 512 := by rw [IntKind.wrap_i64]; omega
              clear hsl hcb hi2 hz21
              cases wk
              · have hsm := hsame.out rfl
                subst hsm
                go_wp2_with fail
                refine wp_mixs (fun V => Below w8.heap.size w8 V) [] (by kernel_rfl) (by kernel_rfl) (by kernel_rfl) (by decide) (show Below w8.heap.size w8 wr.drew from hBr.out.drew) ?_
                iterate 7 ((refine mixsq rfl rfl 0 (by decide +kernel) ?_ (fun w' hw' => Or.inl ?_) (fun K hK => ?_)); rotate_left; (focus (go_simp; rfl)); go_simp; refine hK _ ?_; clear hK K)
                (refine mixsq rfl rfl 0 (by decide +kernel) ?_ (fun w' hw' => Or.inl ?_) (fun K hK => ?_)); rotate_left; (focus (have hb : Below w8.heap.size w8 w' := hw'; have s1 := run_str (P := Try.prog) w' 22 9 5 _ _ Try.underlying22 Try.underlying5 Try.underlying9 (hgk.out.below hb); unfold str at s1; go_simp; rfl)); go_simp; refine hK _ ?_; clear hK K
                iterate 7 ((refine mixsq rfl rfl 0 (by decide +kernel) ?_ (fun w' hw' => Or.inl ?_) (fun K hK => ?_)); rotate_left; (focus (go_simp; rfl)); go_simp; refine hK _ ?_; clear hK K)
                (refine mixsq rfl rfl 0 (by decide +kernel) ?_ (fun w' hw' => Or.inl ?_) (fun K hK => ?_)); rotate_left; (focus (have hb : Below w8.heap.size w8 w' := hw'; have s1 := run_str (P := Try.prog) w' 22 9 5 _ _ Try.underlying22 Try.underlying5 Try.underlying9 (hwk.out.below hb); unfold str at s1; go_simp; rfl)); go_simp; refine hK _ ?_; clear hK K
                iterate 2 ((refine mixsq rfl rfl 0 (by decide +kernel) ?_ (fun w' hw' => Or.inl ?_) (fun K hK => ?_)); rotate_left; (focus (go_simp; rfl)); go_simp; refine hK _ ?_; clear hK K)
                refine mixs_nil ?_
                have hBn : Hid (Below w8.heap.size w8 wr.drew) := hBr.out.drew
                go_wp2
                go_roundw
                case rel => exact ⟨k + 1, by omega, by go_num, hBn⟩
                case measure => simp [RowKit.intOf]; omega
              · go_wp2_with fail
                refine wp_mixs (fun V => Below w8.heap.size w8 V) [] (by kernel_rfl) (by kernel_rfl) (by kernel_rfl) (by decide) (show Below w8.heap.size w8 wr.drew from hBr.out.drew) ?_
                iterate 7 ((refine mixsq rfl rfl 0 (by decide +kernel) ?_ (fun w' hw' => Or.inl ?_) (fun K hK => ?_)); rotate_left; (focus (go_simp; rfl)); go_simp; refine hK _ ?_; clear hK K)
                (refine mixsq rfl rfl 0 (by decide +kernel) ?_ (fun w' hw' => Or.inl ?_) (fun K hK => ?_)); rotate_left; (focus (have hb : Below w8.heap.size w8 w' := hw'; have s1 := run_str (P := Try.prog) w' 22 9 5 _ _ Try.underlying22 Try.underlying5 Try.underlying9 (hgk.out.below hb); unfold str at s1; go_simp; rfl)); go_simp; refine hK _ ?_; clear hK K
                iterate 7 ((refine mixsq rfl rfl 0 (by decide +kernel) ?_ (fun w' hw' => Or.inl ?_) (fun K hK => ?_)); rotate_left; (focus (go_simp; rfl)); go_simp; refine hK _ ?_; clear hK K)
                (refine mixsq rfl rfl 0 (by decide +kernel) ?_ (fun w' hw' => Or.inl ?_) (fun K hK => ?_)); rotate_left; (focus (have hb : Below w8.heap.size w8 w' := hw'; have s1 := run_str (P := Try.prog) w' 22 9 5 _ _ Try.underlying22 Try.underlying5 Try.underlying9 (hwk.out.below hb); unfold str at s1; go_simp; rfl)); go_simp; refine hK _ ?_; clear hK K
                iterate 2 ((refine mixsq rfl rfl 0 (by decide +kernel) ?_ (fun w' hw' => Or.inl ?_) (fun K hK => ?_)); rotate_left; (focus (go_simp; rfl)); go_simp; refine hK _ ?_; clear hK K)
                refine mixs_nil ?_
                have hBn : Hid (Below w8.heap.size w8 wr.drew) := hBr.out.drew
                go_wp2
                go_roundw
                case rel => exact ⟨k + 1, by omega, by go_num, hBn⟩
                case measure => simp [RowKit.intOf]; omega
            · obtain rfl : k = 8 := by omega
              have hsF := hs8h.out.go hBr.out
              have hWt := Waiting_calls wr g d7 S5 hsF.dk (by rw [hwl7h.out]; omega)
              rw [hwl7h.out] at hWt
              have hWth := Lib.hid hWt
              clear hWt
              go_wp2_with fail
              refine hWth.out.mono ?_
              rintro e w9 ⟨rfl, hB9⟩
              have hsF9 := hsF.go hB9
              have hOf := Off_calls w9 g d7 S5 hsF9.dk
              rw [hoff7h.out] at hOf
              have hOfh := Lib.hid hOf
              have hBe := Lib.hid hsF9.below
              clear hOf hsF hsF9 hB9 hWth
              go_wp2_with fail
              refine hOfh.out.mono ?_
              rintro e w10 ⟨rfl, rfl⟩
              go_wp2
              go_ret
              exact ⟨rfl, hBe.out⟩
end Go.Proofs.Ytjldjfipacagdaa
