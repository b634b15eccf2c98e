/- The walk of BlockVersions. -/
import Derived.Test.YtjldjfipacagdaaBkn
namespace Go.Proofs.Ytjldjfipacagdaa
open Go.RowKit
theorem wf64 {n : Int} (h : (Lit.int .i64 n).wf = true) : -9223372036854775808 ≤ n ∧ n ≤ 9223372036854775807 := by
  simp [Lit.wf, IntKind.min, IntKind.max, IntKind.signed, IntKind.bits] at h
  omega
theorem wf8 {n : Int} (h : (Lit.int .u8 n).wf = true) : ∃ b : UInt8, n = (b.toNat : Int) := by
  simp [Lit.wf, IntKind.min, IntKind.max, IntKind.signed, IntKind.bits] at h
  refine ⟨UInt8.ofNat n.toNat, ?_⟩
  have : (UInt8.ofNat n.toNat).toNat = n.toNat % 256 := by simp
  rw [this]
  omega
theorem run_slice2 {P : Program} (w : World) (t e : TypeId) (i : TypeInfo) (ht : P.underlying t = some (.slice e)) (hi : P.info? e = some i) (hs : i.size = 1) (A : Option Addr) (len cap l h : Nat) {x y : Int} (hx : x = l) (hy : y = h) (h1 : l ≤ h) (h2 : h ≤ cap) (h4 : l < cap) :
    (Instr.slice t (.slice A len cap) (some (.int .i64 x)) (some (.int .i64 y)) none).run P w = .ok (.slice (A.map (·.add l)) (h - l) (cap - l)) w := by
  subst hx hy
  have b2 : (0 : Int) ≤ (h : Int) ∧ (h : Int) ≤ (cap : Int) := by omega
  have b3 : (0 : Int) ≤ (l : Int) ∧ (l : Int) ≤ (h : Int) := by omega
  have b4 : ¬ (cap = l) := by omega
  simp [Instr.slice, Instr.sliceBounds, Instr.sliceBound, run_underlying ht, sizeOf, typeInfo, hi, hs, asIntOf, h1, h2, b4]
def vsK (bs : List UInt8) (k : Nat) : List (List UInt8) := (bs.take k).map fun c => fullP [c]
theorem vsK_len (bs : List UInt8) (k : Nat) (h : k ≤ bs.length) : (vsK bs k).length = k := by simp [vsK]; omega
theorem vsK_succ (bs : List UInt8) (k : Nat) (h : k < bs.length) : vsK bs (k + 1) = vsK bs k ++ [fullP [bs[k]]] := by
  unfold vsK
  rw [List.take_succ_eq_append_getElem h, List.map_append]
  rfl
def bvD (F : List UInt8) (vs : List (List UInt8)) (off : Bool) (wr : Int) : Dk := ⟨[zblk, zblk, F], [[], [], vs], off, wr, 0, []⟩
theorem bv_w0 (F : List UInt8) (h : F.length = 512) : writeP (newD 3) 2 F = (0, bvD zblk [F] false (winc 0)) := writeP_ok rfl h (by decide)
theorem bv_s (F : List UInt8) (wr : Int) : syncD (bvD zblk [F] false wr) = bvD F [] false wr := rfl
theorem bv_w (F b : List UInt8) (vs : List (List UInt8)) (wr : Int) (h : b.length = 512) : writeP (bvD F vs false wr) 2 b = (0, bvD F (vs ++ [b]) false (winc wr)) := writeP_ok rfl h (show ¬ (0 : Int) < 0 by decide)
theorem bv_c (F : List UInt8) (vs : List (List UInt8)) (wr p : Int) : cutD (bvD F vs false wr) [p] = bvD (pickB F vs p) [] true wr := by
  have e0 : cutB (bvD F vs false wr) [p] 0 = zblk := pickB_nil _ _
  have e1 : cutB (bvD F vs false wr) [p] 1 = zblk := pickB_nil _ _
  have e2 : cutB (bvD F vs false wr) [p] 2 = pickB F vs p := rfl
  have e : (List.range 3).map (cutB (bvD F vs false wr) [p]) = [zblk, zblk, pickB F vs p] := by
    rw [show List.range 3 = [0, 1, 2] from rfl]
    simp only [List.map_cons, List.map_nil, e0, e1, e2]
  show (⟨(List.range 3).map (cutB (bvD F vs false wr) [p]), _, _, _, _, _⟩ : Dk) = _
  rw [e]
  rfl
theorem bv_o (F : List UInt8) (wr : Int) : onD (bvD F [] true wr) = bvD F [] false wr := rfl
theorem pickB_zero (F : List UInt8) (vs : List (List UInt8)) (p : Int) (h : (p % ((vs.length : Int) + 1)).toNat = 0) : pickB F vs p = F := by
  unfold pickB
  rw [h]
theorem pickB_succ (F b : List UInt8) (vs : List (List UInt8)) (p : Int) (k : Nat) (h : (p % ((vs.length : Int) + 1)).toNat = k + 1) (hb : vs[k]? = some b) : pickB F vs p = b := by
  unfold pickB
  rw [h]
  show vs.getD k F = b
  rw [List.getD_eq_getElem?_getD, hb]
  rfl
theorem vsK_at (bs : List UInt8) (k : Nat) (h : k < bs.length) : (vsK bs bs.length)[k]? = some (fullP [bs[k]]) := by
  unfold vsK
  rw [List.take_length, List.getElem?_map, List.getElem?_eq_getElem h]
  rfl
theorem pickB_len {F : List UInt8} {vs : List (List UInt8)} {p : Int} (hF : F.length = 512) (hv : ∀ v ∈ vs, v.length = 512) : (pickB F vs p).length = 512 := by
  unfold pickB
  split
  · exact hF
  · rename_i k _
    rw [List.getD_eq_getElem?_getD]
    rcases Nat.lt_or_ge k vs.length with h | h
    · rw [List.getElem?_eq_getElem h]; exact hv _ (List.getElem_mem h)
    · rw [List.getElem?_eq_none h]; exact hF
set_option maxRecDepth 100000 in
set_option maxHeartbeats 8000000 in
theorem BlockVersions_calls (w : World) {n0 n2 : Int} {x1 : Value} {bs : List UInt8} (ww0 : (Lit.int .u8 n0).wf = true) (xx1 : Rd w x1 (bvs bs)) (ll1 : bs.length ≤ 9223372036854775807) (ww2 : (Lit.int .i64 n2).wf = true) :
    Calls Try.prog 3 #[.int .u8 n0, x1, .int .i64 n2] w fun e w' => e = .returned (.bool true) ∧ Below w.heap.size w w' := by
  obtain ⟨fb, rfl⟩ := wf8 ww0
  obtain ⟨m1, m2⟩ := wf64 ww2
  obtain ⟨i0, hi, hz0, hz1, hz2⟩ := info_parts Try.info_u8
  have hx0 := Lib.hid xx1
  obtain ⟨A, c, rfl⟩ := xx1.shape8
  have hcap : bs.length ≤ c := by
    obtain ⟨A', c', e, h, _⟩ := xx1
    injection e with _ _ e3
    rw [e3, ← bvs_length bs]; exact h
  clear xx1
  by_cases hg : 200 < bs.length
  · clear hcap
    generalize bs.length = n at *
    go_enter Try.func3, Try.ntmps3
    go_wp2_with fail
    refine (known_calls w).mono ?_
    rintro e w1 ⟨rfl, hB1⟩
    go_wp2
    go_ret
    exact ⟨rfl, hB1⟩
  obtain ⟨F, hF⟩ : ∃ F, Hid (F = fullP [fb]) := ⟨_, Lib.hid rfl⟩
  have lF : Hid (F.length = 512) := by rw [hF.out]; exact fullP_len _
  have hv512 : Hid (∀ k, ∀ v ∈ vsK bs k, v.length = 512) := fun k v hv => by
    obtain ⟨c, _, rfl⟩ := List.mem_map.1 hv
    exact fullP_len _
  have hvl := Lib.hid (fun k (h : k ≤ bs.length) => vsK_len bs k h)
  have hvs := Lib.hid (fun k (h : k < bs.length) => vsK_succ bs k h)
  have hva := Lib.hid (fun k (h : k < bs.length) => vsK_at bs k h)
  have hn200 : bs.length ≤ 200 := by omega
  go_enter Try.func3, Try.ntmps3
  go_wp2_with fail
  refine (known_calls w).mono ?_
  rintro e w0 ⟨rfl, hB0⟩
  go_wp2_with fail
  refine (New_calls w0 3).mono ?_
  intro e w1 h
  obtain ⟨g, S, rfl, hdk, hb, hn⟩ := h.ok (by omega)
  have hs := Lib.hid (St.made hB0 hdk hb hn)
  clear h hdk hb hn hB0
  go_wp2_with fail
  refine (show Calls Try.prog 11 _ _ _ from FullOne w1 fb).mono ?_
  rintro e w1a ⟨fA, fc, rfl, hfo, hfb⟩
  have hsa := hs.out.go hfb
  rw [← hF.out] at hfo
  have hW := Write_calls w1a g _ S hsa.dk 2 _ F (Rd.of_own hfo) (hsa.not8 hfo) (by rw [lF.out]; omega) (show 3 ≤ 16384 by omega) (by simp [waitP, newD]) (show (0 : Int) ≤ _ by omega) (Nat.zero_le _)
  rw [show (3 : Int).toNat = 3 from rfl, bv_w0 F lF.out] at hW
  have hW := Lib.hid hW
  have hsah := Lib.hid hsa
  clear hfo hfb hs hsa
  go_wp2_with fail
  refine hW.out.mono ?_
  rintro e w2 ⟨rfl, hw⟩
  obtain ⟨S1, hs1, _, _⟩ := hsah.out.wrote hw
  have hs1h := Lib.hid hs1
  clear hW hsah hw hs1
  go_wp2_with fail
  refine (Sync_calls w2 g _ S1 hs1h.out.dk rfl (show 3 ≤ 16384 by omega) (by simp [waitP, bvD])).mono ?_
  rintro e w3 ⟨rfl, hw⟩
  rw [bv_s] at hw
  obtain ⟨S2, hs2, _, _⟩ := hs1h.out.wrote hw
  have hs2h := Lib.hid hs2
  clear hs1h hw hs2
  go_wp2
  go_loopw [9] (fun i wr => ∃ (k : Nat) (S' : Nat → Prop) (wv : Int), k ≤ bs.length ∧ i = .int .i64 k ∧ Hid (St w wr g (bvD F (vsK bs k) false wv) S')) (fun i _ => bs.length - (RowKit.intOf i).toNat)
  case atStart => exact ⟨0, S2, _, Nat.zero_le _, rfl, hs2h⟩
  case round =>
    obtain ⟨k, S', wv, hk, rfl, hs⟩ := hrel
    clear hs2h
    by_cases hlt : k < bs.length
    · obtain ⟨ad, rfl, hc⟩ := (hx0.out.below hs.out.below).at8a hlt
      have hsl : ∀ W : World, Sem.run Try.prog (Instr.slice 22 (.slice (some ad) bs.length c) (some (.int .i64 (k : Int))) (some (.int .i64 ((k : Int) + 1))) none) W = .ok (.slice (some (ad.add k)) 1 (c - k)) W := by
        intro W
        have := run_slice2 (P := Try.prog) W 22 5 i0 Try.underlying22 hi hz1 (some ad) bs.length c k (k + 1) (x := (k : Int)) (y := (k : Int) + 1) rfl (by omega) (by omega) (by omega) (by omega)
        rw [show k + 1 - k = 1 by omega] at this
        exact this
      have hr1 : Rd wr (.slice (some (ad.add k)) 1 (c - k)) (bvs [bs[k]]) := ⟨_, _, rfl, by show 1 ≤ c - k; omega, fun _ => ⟨_, rfl, fun j u hu => by
        have hj : j = 0 := by have := (List.getElem?_eq_some_iff.1 hu).1; simp [bvs] at this; exact this
        subst hj
        cases hu
        rw [show (ad.add k).add 0 = ad.add k by rw [addr_add_add]; rfl]
        exact hc⟩⟩
      have hvsk := Lib.hid (hvs.out k hlt)
      have hvlk := Lib.hid (hvl.out k (by omega))
      have hr1h := Lib.hid hr1
      obtain ⟨FK, hFK⟩ : ∃ FK, Hid (FK = fullP [bs[k]]) := ⟨_, Lib.hid rfl⟩
      have lFK : Hid (FK.length = 512) := by rw [hFK.out]; exact fullP_len _
      clear hr1 hc
      generalize bs[k] = ck at *
      go_wp2_with fail
      refine (Full_calls wr _ [ck] hr1h.out (by simp)).mono ?_
      rintro e wa ⟨r, rfl, ho, hB, _⟩
      have hsa := hs.out.go hB
      rw [← hFK.out] at ho hvsk
      obtain ⟨fA, fc, e⟩ := ho.shape
      rw [lFK.out] at e
      subst e
      have hW := Write_calls wa g _ S' hsa.dk 2 _ FK (Rd.of_own ho) (hsa.not8 ho) (by rw [lFK.out]; omega) (show 3 ≤ 16384 by omega) (by have := hvlk.out; simp [waitP, bvD]; omega) (show (0 : Int) ≤ _ by omega) (Nat.zero_le _)
      rw [bv_w F FK _ wv lFK.out, ← hvsk.out] at hW
      have hWh := Lib.hid hW
      have hsah := Lib.hid hsa
      clear hW ho hB hs hsa hsl
      go_wp2_with fail
      refine hWh.out.mono ?_
      rintro e wb ⟨rfl, hw⟩
      obtain ⟨S3, hs3, _, _⟩ := hsah.out.wrote hw
      have hs3h := Lib.hid hs3
      clear hWh hsah hw hs3
      go_wp2
      go_roundw
      case rel => exact ⟨k + 1, S3, _, by omega, by go_num, hs3h⟩
      case measure => simp [RowKit.intOf]; omega
    · obtain rfl : k = bs.length := by omega
      have hvl2 := Lib.hid (hvl.out bs.length (Nat.le_refl _))
      obtain ⟨vs, hvse⟩ : ∃ vs, Hid (vs = vsK bs bs.length) := ⟨_, Lib.hid rfl⟩
      rw [← hvse.out] at hs hva hvl2
      have hv5 : Hid (∀ v ∈ vs, v.length = 512) := by rw [hvse.out]; exact hv512.out _
      have hsa := Lib.hid (hs.out.go (alloc_below wr (.cells #[.int .i64 n2] 3)))
      have hC1 := Cut_calls _ g _ _ hsa.out.dk rfl (show 3 ≤ 16384 by omega) (by have := hvl2.out; simp [waitP, bvD]; omega) _ [n2] (ints1 wr n2).1 (fun hne => (ints1 wr n2).away hsa.out.dk.noti (ivs_ne hne)) (by simp)
      rw [bv_c] at hC1
      have hC1h := Lib.hid hC1
      clear hC1 hs
      go_wp2_with fail
      refine hC1h.out.mono ?_
      rintro e w7 ⟨rfl, hw⟩
      obtain ⟨S4, hs4, _, _⟩ := hsa.out.wrote hw
      have hs4h := Lib.hid hs4
      clear hC1h hsa hw hs4
      go_wp2_with fail
      refine (On_calls w7 g _ S4 hs4h.out.dk).mono ?_
      rintro e w8 ⟨rfl, hw⟩
      rw [bv_o] at hw
      obtain ⟨S5, hs5, _, _⟩ := hs4h.out.wrote hw
      have hs5h := Lib.hid hs5
      clear hs4h hw hs5
      have lP : Hid ((pickB F vs n2).length = 512) := pickB_len lF.out hv5.out
      obtain ⟨LL, hLq⟩ : ∃ LL, Hid (LL = pickB F vs n2) := ⟨_, Lib.hid rfl⟩
      rw [← hLq.out] at lP hs5h
      have hr1 := Lib.hid (Read_calls w8 g _ S5 hs5h.out.dk ((2 : Nat) : Int) (show 3 ≤ 16384 by omega) (by simp [bvD]))
      go_wp2_with fail
      refine hr1.out.mono ?_
      intro e w12 hr
      obtain ⟨xA, xc, rfl, hx, hxb⟩ := hr.ok rfl lP.out
      have hxR := Lib.hid (Rd.of_own hx)
      have hBW := Lib.hid (hs5h.out.go hxb).below
      rw [show lastP (bvD LL [] false wv) 2 = LL from rfl] at hxR
      have hxx := Lib.hid (hx0.out.below hBW.out)
      clear hr hr1 hxb hx hs5h
      have hm0 : ¬ ((bs.length : Int) + 1 = 0) := by omega
      have hqa : Int.tmod n2 ((bs.length : Int) + 1) < (bs.length : Int) + 1 := Int.tmod_lt_of_pos _ (by omega)
      have hqb : -((bs.length : Int) + 1) < Int.tmod n2 ((bs.length : Int) + 1) := Int.lt_tmod_of_pos _ (by omega)
      rcases (show Int.tmod n2 ((bs.length : Int) + 1) < 0 ∨ Int.tmod n2 ((bs.length : Int) + 1) = 0 ∨ 0 < Int.tmod n2 ((bs.length : Int) + 1) by omega) with hq | hq | hq
      · obtain ⟨K, hK⟩ : ∃ K : Nat, Int.tmod n2 ((bs.length : Int) + 1) = -(K : Int) := ⟨(-(Int.tmod n2 ((bs.length : Int) + 1))).toNat, by omega⟩
        rw [hK] at hq hqa hqb
        obtain ⟨q, hqe⟩ : ∃ q : Int, q = -(K : Int) := ⟨_, rfl⟩
        obtain ⟨K2, hK2⟩ : ∃ K2 : Nat, K2 + 1 = bs.length + 1 - K := ⟨bs.length - K, by omega⟩
        have hpe : (n2 % ((vs.length : Int) + 1)).toNat = K2 + 1 := by
          rw [hvl2.out, pick_neg hK (by omega) (by omega), hK2]
          rfl
        rw [← hqe] at hK
        have hq0 : q < 0 := by omega
        have hK2m : K2 < bs.length := by omega
        have hsum : q + (bs.length : Int) + 1 = (K2 : Int) + 1 := by omega
        have hsum0 : (-9223372036854775808 : Int) ≤ q + (bs.length : Int) := by omega
        have hsum1 : q + (bs.length : Int) ≤ 9223372036854775806 := by omega
        have hLL : Hid (LL = fullP [bs[K2]]) := by
          rw [hLq.out]
          exact pickB_succ F _ vs n2 K2 hpe (hva.out K2 hK2m)
        obtain ⟨ad, rfl, hc⟩ := hxx.out.at8a hK2m
        clear hq hqa hqb hK2 hqe hpe
        generalize bs[K2] = ck at *
        unfold bv at hc
        go_wp2_with fail
        refine wp_mixs (fun W => Below w12.heap.size w12 W) [6, 7] (by kernel_rfl) (by kernel_rfl) (by kernel_rfl) (by decide) ((Below.refl _ _).drew) ?_
        iterate 3 ((first | refine mixsq rfl rfl 0 (by decide +kernel) ?_ (fun w' hw' => Or.inl ?_) (fun K hK => ?_) | refine mixsq rfl rfl 1 (by decide +kernel) ?_ (fun w' hw' => Or.inl ?_) (fun K hK => ?_) | refine mixsq rfl rfl 2 (by decide +kernel) ?_ (fun w' hw' => Or.inl ?_) (fun K hK => ?_) | refine mixsq rfl rfl 3 (by decide +kernel) ?_ (fun w' hw' => Or.inl ?_) (fun K hK => ?_) | refine mixsq rfl rfl 4 (by decide +kernel) ?_ (fun w' hw' => Or.inl ?_) (fun K hK => ?_) | refine mixsq rfl rfl 5 (by decide +kernel) ?_ (fun w' hw' => Or.inl ?_) (fun K hK => ?_) | refine mixsq rfl rfl 6 (by decide +kernel) ?_ (fun w' hw' => Or.inl ?_) (fun K hK => ?_)); rotate_left; (focus (go_simp; rfl)); go_simp; refine hK _ ?_; clear hK K)
        (first | refine mixsq_yes rfl (by first | rfl | kernel_rfl) 0 (by decide +kernel) ?_ (fun w' hw' => Or.inl ?_) (fun K hK => ?_) | refine mixsq_yes rfl (by first | rfl | kernel_rfl) 1 (by decide +kernel) ?_ (fun w' hw' => Or.inl ?_) (fun K hK => ?_) | refine mixsq_yes rfl (by first | rfl | kernel_rfl) 2 (by decide +kernel) ?_ (fun w' hw' => Or.inl ?_) (fun K hK => ?_) | refine mixsq_yes rfl (by first | rfl | kernel_rfl) 3 (by decide +kernel) ?_ (fun w' hw' => Or.inl ?_) (fun K hK => ?_) | refine mixsq_yes rfl (by first | rfl | kernel_rfl) 4 (by decide +kernel) ?_ (fun w' hw' => Or.inl ?_) (fun K hK => ?_) | refine mixsq_yes rfl (by first | rfl | kernel_rfl) 5 (by decide +kernel) ?_ (fun w' hw' => Or.inl ?_) (fun K hK => ?_) | refine mixsq_yes rfl (by first | rfl | kernel_rfl) 6 (by decide +kernel) ?_ (fun w' hw' => Or.inl ?_) (fun K hK => ?_)); rotate_left; (focus (go_simp; rfl)); go_simp; refine hK _ ?_; clear hK K
        (first | refine mixsq_yes rfl (by first | rfl | kernel_rfl) 0 (by decide +kernel) ?_ (fun w' hw' => Or.inl ?_) (fun K hK => ?_) | refine mixsq_yes rfl (by first | rfl | kernel_rfl) 1 (by decide +kernel) ?_ (fun w' hw' => Or.inl ?_) (fun K hK => ?_) | refine mixsq_yes rfl (by first | rfl | kernel_rfl) 2 (by decide +kernel) ?_ (fun w' hw' => Or.inl ?_) (fun K hK => ?_) | refine mixsq_yes rfl (by first | rfl | kernel_rfl) 3 (by decide +kernel) ?_ (fun w' hw' => Or.inl ?_) (fun K hK => ?_) | refine mixsq_yes rfl (by first | rfl | kernel_rfl) 4 (by decide +kernel) ?_ (fun w' hw' => Or.inl ?_) (fun K hK => ?_) | refine mixsq_yes rfl (by first | rfl | kernel_rfl) 5 (by decide +kernel) ?_ (fun w' hw' => Or.inl ?_) (fun K hK => ?_) | refine mixsq_yes rfl (by first | rfl | kernel_rfl) 6 (by decide +kernel) ?_ (fun w' hw' => Or.inl ?_) (fun K hK => ?_)); rotate_left; (focus (have hb : Below w12.heap.size w12 w' := hw'; have s1 := run_str (P := Try.prog) w' 22 9 5 _ _ Try.underlying22 Try.underlying5 Try.underlying9 (hxR.out.below hb); unfold str at s1; go_simp; rfl)); go_simp; refine hK _ ?_; clear hK K
        (first | refine mixsq_yes rfl (by first | rfl | kernel_rfl) 0 (by decide +kernel) ?_ (fun w' hw' => Or.inl ?_) (fun K hK => ?_) | refine mixsq_yes rfl (by first | rfl | kernel_rfl) 1 (by decide +kernel) ?_ (fun w' hw' => Or.inl ?_) (fun K hK => ?_) | refine mixsq_yes rfl (by first | rfl | kernel_rfl) 2 (by decide +kernel) ?_ (fun w' hw' => Or.inl ?_) (fun K hK => ?_) | refine mixsq_yes rfl (by first | rfl | kernel_rfl) 3 (by decide +kernel) ?_ (fun w' hw' => Or.inl ?_) (fun K hK => ?_) | refine mixsq_yes rfl (by first | rfl | kernel_rfl) 4 (by decide +kernel) ?_ (fun w' hw' => Or.inl ?_) (fun K hK => ?_) | refine mixsq_yes rfl (by first | rfl | kernel_rfl) 5 (by decide +kernel) ?_ (fun w' hw' => Or.inl ?_) (fun K hK => ?_) | refine mixsq_yes rfl (by first | rfl | kernel_rfl) 6 (by decide +kernel) ?_ (fun w' hw' => Or.inl ?_) (fun K hK => ?_)); rotate_left; (focus (go_simp; rfl)); go_simp; refine hK _ ?_; clear hK K
        refine mixsl_yes rfl (by first | rfl | kernel_rfl) (fun K hK => ?_)
        go_simp
        have b5 : Below w12.heap.size w12 (w12.drew.alloc (.cells #[bv ck] 5)) := ((Below.refl w12.heap.size w12).drew).alloc (Nat.le_refl _) _
        refine hK (fun W => Below w12.heap.size w12 W) _ _ (fun _ => ⟨b5, fun _ => b5⟩) ?_
        clear hK K
        refine mixsl_yes rfl (by first | rfl | kernel_rfl) (fun K hK => ?_)
        go_simp
        refine (FullOne w12.drew ck).mono ?_
        rintro e w13 ⟨fA2, fc2, rfl, hfo, hfb⟩
        have b7 : Below w12.heap.size w12 w13 := ⟨hfb.os, hfb.tape, hfb.output, hfb.size, hfb.block⟩
        have r7 := Rd.of_own hfo
        rw [← hLL.out] at r7
        refine hK (fun W => Below w12.heap.size w12 W ∧ Rd W (.slice fA2 512 fc2) (bvs LL)) _ _ (fun _ => ⟨⟨b7, r7⟩, ext_all (fun _ => b7) b7⟩) ?_
        clear hK K
        (refine mixsq_yes rfl (by first | rfl | kernel_rfl) 2 (by decide +kernel) ?_ (fun w' hw' => Or.inl ?_) (fun K hK => ?_)); rotate_left; (focus (have hb : Below w12.heap.size w12 w' ∧ Rd w' (.slice fA2 512 fc2) (bvs LL) := hw'; have s1 := run_str (P := Try.prog) w' 22 9 5 _ _ Try.underlying22 Try.underlying5 Try.underlying9 hb.2; unfold str at s1; go_simp; rfl)); go_simp; refine hK _ ?_; clear hK K
        (first | refine mixsq_yes rfl (by first | rfl | kernel_rfl) 0 (by decide +kernel) ?_ (fun w' hw' => Or.inl ?_) (fun K hK => ?_) | refine mixsq_yes rfl (by first | rfl | kernel_rfl) 1 (by decide +kernel) ?_ (fun w' hw' => Or.inl ?_) (fun K hK => ?_) | refine mixsq_yes rfl (by first | rfl | kernel_rfl) 2 (by decide +kernel) ?_ (fun w' hw' => Or.inl ?_) (fun K hK => ?_) | refine mixsq_yes rfl (by first | rfl | kernel_rfl) 3 (by decide +kernel) ?_ (fun w' hw' => Or.inl ?_) (fun K hK => ?_) | refine mixsq_yes rfl (by first | rfl | kernel_rfl) 4 (by decide +kernel) ?_ (fun w' hw' => Or.inl ?_) (fun K hK => ?_) | refine mixsq_yes rfl (by first | rfl | kernel_rfl) 5 (by decide +kernel) ?_ (fun w' hw' => Or.inl ?_) (fun K hK => ?_) | refine mixsq_yes rfl (by first | rfl | kernel_rfl) 6 (by decide +kernel) ?_ (fun w' hw' => Or.inl ?_) (fun K hK => ?_)); rotate_left; (focus (go_simp; rfl)); go_simp; refine hK _ ?_; clear hK K
        (first | refine mixsq rfl rfl 0 (by decide +kernel) ?_ (fun w' hw' => Or.inl ?_) (fun K hK => ?_) | refine mixsq rfl rfl 1 (by decide +kernel) ?_ (fun w' hw' => Or.inl ?_) (fun K hK => ?_) | refine mixsq rfl rfl 2 (by decide +kernel) ?_ (fun w' hw' => Or.inl ?_) (fun K hK => ?_) | refine mixsq rfl rfl 3 (by decide +kernel) ?_ (fun w' hw' => Or.inl ?_) (fun K hK => ?_) | refine mixsq rfl rfl 4 (by decide +kernel) ?_ (fun w' hw' => Or.inl ?_) (fun K hK => ?_) | refine mixsq rfl rfl 5 (by decide +kernel) ?_ (fun w' hw' => Or.inl ?_) (fun K hK => ?_) | refine mixsq rfl rfl 6 (by decide +kernel) ?_ (fun w' hw' => Or.inl ?_) (fun K hK => ?_)); rotate_left; (focus (go_simp; rfl)); go_simp; refine hK _ ?_; clear hK K
        (first | refine mixsq rfl rfl 0 (by decide +kernel) ?_ (fun w' hw' => Or.inl ?_) (fun K hK => ?_) | refine mixsq rfl rfl 1 (by decide +kernel) ?_ (fun w' hw' => Or.inl ?_) (fun K hK => ?_) | refine mixsq rfl rfl 2 (by decide +kernel) ?_ (fun w' hw' => Or.inl ?_) (fun K hK => ?_) | refine mixsq rfl rfl 3 (by decide +kernel) ?_ (fun w' hw' => Or.inl ?_) (fun K hK => ?_) | refine mixsq rfl rfl 4 (by decide +kernel) ?_ (fun w' hw' => Or.inl ?_) (fun K hK => ?_) | refine mixsq rfl rfl 5 (by decide +kernel) ?_ (fun w' hw' => Or.inl ?_) (fun K hK => ?_) | refine mixsq rfl rfl 6 (by decide +kernel) ?_ (fun w' hw' => Or.inl ?_) (fun K hK => ?_)); rotate_left; (focus (go_simp; rfl)); go_simp; refine hK _ ?_; clear hK K
        refine mixs_nil ?_
        have hBe := hBW.out.trans (b7.mono hBW.out.size)
        go_wp2
        go_ret
        exact ⟨rfl, hBe⟩
      · have hpe : (n2 % ((vs.length : Int) + 1)).toNat = 0 := by
          rw [hvl2.out, pick_pos (K := 0) hq (Nat.zero_le _)]
          rfl
        have hLL : Hid (LL = fullP [fb]) := by
          rw [hLq.out, pickB_zero F vs n2 hpe]
          exact hF.out
        clear hqa hqb hpe
        go_wp2_with fail
        refine wp_mixs (fun W => Below w12.heap.size w12 W) [6, 7] (by kernel_rfl) (by kernel_rfl) (by kernel_rfl) (by decide) ((Below.refl _ _).drew) ?_
        iterate 3 ((first | refine mixsq rfl rfl 0 (by decide +kernel) ?_ (fun w' hw' => Or.inl ?_) (fun K hK => ?_) | refine mixsq rfl rfl 1 (by decide +kernel) ?_ (fun w' hw' => Or.inl ?_) (fun K hK => ?_) | refine mixsq rfl rfl 2 (by decide +kernel) ?_ (fun w' hw' => Or.inl ?_) (fun K hK => ?_) | refine mixsq rfl rfl 3 (by decide +kernel) ?_ (fun w' hw' => Or.inl ?_) (fun K hK => ?_) | refine mixsq rfl rfl 4 (by decide +kernel) ?_ (fun w' hw' => Or.inl ?_) (fun K hK => ?_) | refine mixsq rfl rfl 5 (by decide +kernel) ?_ (fun w' hw' => Or.inl ?_) (fun K hK => ?_) | refine mixsq rfl rfl 6 (by decide +kernel) ?_ (fun w' hw' => Or.inl ?_) (fun K hK => ?_)); rotate_left; (focus (go_simp; rfl)); go_simp; refine hK _ ?_; clear hK K)
        (first | refine mixsq_yes rfl (by first | rfl | kernel_rfl) 0 (by decide +kernel) ?_ (fun w' hw' => Or.inl ?_) (fun K hK => ?_) | refine mixsq_yes rfl (by first | rfl | kernel_rfl) 1 (by decide +kernel) ?_ (fun w' hw' => Or.inl ?_) (fun K hK => ?_) | refine mixsq_yes rfl (by first | rfl | kernel_rfl) 2 (by decide +kernel) ?_ (fun w' hw' => Or.inl ?_) (fun K hK => ?_) | refine mixsq_yes rfl (by first | rfl | kernel_rfl) 3 (by decide +kernel) ?_ (fun w' hw' => Or.inl ?_) (fun K hK => ?_) | refine mixsq_yes rfl (by first | rfl | kernel_rfl) 4 (by decide +kernel) ?_ (fun w' hw' => Or.inl ?_) (fun K hK => ?_) | refine mixsq_yes rfl (by first | rfl | kernel_rfl) 5 (by decide +kernel) ?_ (fun w' hw' => Or.inl ?_) (fun K hK => ?_) | refine mixsq_yes rfl (by first | rfl | kernel_rfl) 6 (by decide +kernel) ?_ (fun w' hw' => Or.inl ?_) (fun K hK => ?_)); rotate_left; (focus (go_simp; rfl)); go_simp; refine hK _ ?_; clear hK K
        (first | refine mixsq_yes rfl (by first | rfl | kernel_rfl) 0 (by decide +kernel) ?_ (fun w' hw' => Or.inl ?_) (fun K hK => ?_) | refine mixsq_yes rfl (by first | rfl | kernel_rfl) 1 (by decide +kernel) ?_ (fun w' hw' => Or.inl ?_) (fun K hK => ?_) | refine mixsq_yes rfl (by first | rfl | kernel_rfl) 2 (by decide +kernel) ?_ (fun w' hw' => Or.inl ?_) (fun K hK => ?_) | refine mixsq_yes rfl (by first | rfl | kernel_rfl) 3 (by decide +kernel) ?_ (fun w' hw' => Or.inl ?_) (fun K hK => ?_) | refine mixsq_yes rfl (by first | rfl | kernel_rfl) 4 (by decide +kernel) ?_ (fun w' hw' => Or.inl ?_) (fun K hK => ?_) | refine mixsq_yes rfl (by first | rfl | kernel_rfl) 5 (by decide +kernel) ?_ (fun w' hw' => Or.inl ?_) (fun K hK => ?_) | refine mixsq_yes rfl (by first | rfl | kernel_rfl) 6 (by decide +kernel) ?_ (fun w' hw' => Or.inl ?_) (fun K hK => ?_)); rotate_left; (focus (have hb : Below w12.heap.size w12 w' := hw'; have s1 := run_str (P := Try.prog) w' 22 9 5 _ _ Try.underlying22 Try.underlying5 Try.underlying9 (hxR.out.below hb); unfold str at s1; go_simp; rfl)); go_simp; refine hK _ ?_; clear hK K
        (first | refine mixsq_yes rfl (by first | rfl | kernel_rfl) 0 (by decide +kernel) ?_ (fun w' hw' => Or.inl ?_) (fun K hK => ?_) | refine mixsq_yes rfl (by first | rfl | kernel_rfl) 1 (by decide +kernel) ?_ (fun w' hw' => Or.inl ?_) (fun K hK => ?_) | refine mixsq_yes rfl (by first | rfl | kernel_rfl) 2 (by decide +kernel) ?_ (fun w' hw' => Or.inl ?_) (fun K hK => ?_) | refine mixsq_yes rfl (by first | rfl | kernel_rfl) 3 (by decide +kernel) ?_ (fun w' hw' => Or.inl ?_) (fun K hK => ?_) | refine mixsq_yes rfl (by first | rfl | kernel_rfl) 4 (by decide +kernel) ?_ (fun w' hw' => Or.inl ?_) (fun K hK => ?_) | refine mixsq_yes rfl (by first | rfl | kernel_rfl) 5 (by decide +kernel) ?_ (fun w' hw' => Or.inl ?_) (fun K hK => ?_) | refine mixsq_yes rfl (by first | rfl | kernel_rfl) 6 (by decide +kernel) ?_ (fun w' hw' => Or.inl ?_) (fun K hK => ?_)); rotate_left; (focus (go_simp; rfl)); go_simp; refine hK _ ?_; clear hK K
        refine mixsl_yes rfl (by first | rfl | kernel_rfl) (fun K hK => ?_)
        go_simp
        have b5 : Below w12.heap.size w12 (w12.drew.alloc (.cells #[bv fb] 5)) := ((Below.refl w12.heap.size w12).drew).alloc (Nat.le_refl _) _
        refine hK (fun W => Below w12.heap.size w12 W) _ _ (fun _ => ⟨b5, fun _ => b5⟩) ?_
        clear hK K
        refine mixsl_yes rfl (by first | rfl | kernel_rfl) (fun K hK => ?_)
        go_simp
        refine (FullOne w12.drew fb).mono ?_
        rintro e w13 ⟨fA2, fc2, rfl, hfo, hfb⟩
        have b7 : Below w12.heap.size w12 w13 := ⟨hfb.os, hfb.tape, hfb.output, hfb.size, hfb.block⟩
        have r7 := Rd.of_own hfo
        rw [← hLL.out] at r7
        refine hK (fun W => Below w12.heap.size w12 W ∧ Rd W (.slice fA2 512 fc2) (bvs LL)) _ _ (fun _ => ⟨⟨b7, r7⟩, ext_all (fun _ => b7) b7⟩) ?_
        clear hK K
        (refine mixsq_yes rfl (by first | rfl | kernel_rfl) 2 (by decide +kernel) ?_ (fun w' hw' => Or.inl ?_) (fun K hK => ?_)); rotate_left; (focus (have hb : Below w12.heap.size w12 w' ∧ Rd w' (.slice fA2 512 fc2) (bvs LL) := hw'; have s1 := run_str (P := Try.prog) w' 22 9 5 _ _ Try.underlying22 Try.underlying5 Try.underlying9 hb.2; unfold str at s1; go_simp; rfl)); go_simp; refine hK _ ?_; clear hK K
        (first | refine mixsq_yes rfl (by first | rfl | kernel_rfl) 0 (by decide +kernel) ?_ (fun w' hw' => Or.inl ?_) (fun K hK => ?_) | refine mixsq_yes rfl (by first | rfl | kernel_rfl) 1 (by decide +kernel) ?_ (fun w' hw' => Or.inl ?_) (fun K hK => ?_) | refine mixsq_yes rfl (by first | rfl | kernel_rfl) 2 (by decide +kernel) ?_ (fun w' hw' => Or.inl ?_) (fun K hK => ?_) | refine mixsq_yes rfl (by first | rfl | kernel_rfl) 3 (by decide +kernel) ?_ (fun w' hw' => Or.inl ?_) (fun K hK => ?_) | refine mixsq_yes rfl (by first | rfl | kernel_rfl) 4 (by decide +kernel) ?_ (fun w' hw' => Or.inl ?_) (fun K hK => ?_) | refine mixsq_yes rfl (by first | rfl | kernel_rfl) 5 (by decide +kernel) ?_ (fun w' hw' => Or.inl ?_) (fun K hK => ?_) | refine mixsq_yes rfl (by first | rfl | kernel_rfl) 6 (by decide +kernel) ?_ (fun w' hw' => Or.inl ?_) (fun K hK => ?_)); rotate_left; (focus (go_simp; rfl)); go_simp; refine hK _ ?_; clear hK K
        (first | refine mixsq rfl rfl 0 (by decide +kernel) ?_ (fun w' hw' => Or.inl ?_) (fun K hK => ?_) | refine mixsq rfl rfl 1 (by decide +kernel) ?_ (fun w' hw' => Or.inl ?_) (fun K hK => ?_) | refine mixsq rfl rfl 2 (by decide +kernel) ?_ (fun w' hw' => Or.inl ?_) (fun K hK => ?_) | refine mixsq rfl rfl 3 (by decide +kernel) ?_ (fun w' hw' => Or.inl ?_) (fun K hK => ?_) | refine mixsq rfl rfl 4 (by decide +kernel) ?_ (fun w' hw' => Or.inl ?_) (fun K hK => ?_) | refine mixsq rfl rfl 5 (by decide +kernel) ?_ (fun w' hw' => Or.inl ?_) (fun K hK => ?_) | refine mixsq rfl rfl 6 (by decide +kernel) ?_ (fun w' hw' => Or.inl ?_) (fun K hK => ?_)); rotate_left; (focus (go_simp; rfl)); go_simp; refine hK _ ?_; clear hK K
        (first | refine mixsq rfl rfl 0 (by decide +kernel) ?_ (fun w' hw' => Or.inl ?_) (fun K hK => ?_) | refine mixsq rfl rfl 1 (by decide +kernel) ?_ (fun w' hw' => Or.inl ?_) (fun K hK => ?_) | refine mixsq rfl rfl 2 (by decide +kernel) ?_ (fun w' hw' => Or.inl ?_) (fun K hK => ?_) | refine mixsq rfl rfl 3 (by decide +kernel) ?_ (fun w' hw' => Or.inl ?_) (fun K hK => ?_) | refine mixsq rfl rfl 4 (by decide +kernel) ?_ (fun w' hw' => Or.inl ?_) (fun K hK => ?_) | refine mixsq rfl rfl 5 (by decide +kernel) ?_ (fun w' hw' => Or.inl ?_) (fun K hK => ?_) | refine mixsq rfl rfl 6 (by decide +kernel) ?_ (fun w' hw' => Or.inl ?_) (fun K hK => ?_)); rotate_left; (focus (go_simp; rfl)); go_simp; refine hK _ ?_; clear hK K
        refine mixs_nil ?_
        have hBe := hBW.out.trans (b7.mono hBW.out.size)
        go_wp2
        go_ret
        exact ⟨rfl, hBe⟩
      · obtain ⟨K2, hK⟩ : ∃ K : Nat, Int.tmod n2 ((bs.length : Int) + 1) = (K : Int) + 1 := ⟨(Int.tmod n2 ((bs.length : Int) + 1)).toNat - 1, by omega⟩
        rw [hK] at hq hqa hqb
        have hpe : (n2 % ((vs.length : Int) + 1)).toNat = K2 + 1 := by
          rw [hvl2.out, pick_pos (K := K2 + 1) (by rw [hK]; rfl) (by omega)]
          rfl
        have hK2m : K2 < bs.length := by omega
        have hLL : Hid (LL = fullP [bs[K2]]) := by
          rw [hLq.out]
          exact pickB_succ F _ vs n2 K2 hpe (hva.out K2 hK2m)
        obtain ⟨ad, rfl, hc⟩ := hxx.out.at8a hK2m
        clear hq hqa hqb hpe
        generalize bs[K2] = ck at *
        unfold bv at hc
        go_wp2_with fail
        refine wp_mixs (fun W => Below w12.heap.size w12 W) [6, 7] (by kernel_rfl) (by kernel_rfl) (by kernel_rfl) (by decide) ((Below.refl _ _).drew) ?_
        iterate 3 ((first | refine mixsq rfl rfl 0 (by decide +kernel) ?_ (fun w' hw' => Or.inl ?_) (fun K hK => ?_) | refine mixsq rfl rfl 1 (by decide +kernel) ?_ (fun w' hw' => Or.inl ?_) (fun K hK => ?_) | refine mixsq rfl rfl 2 (by decide +kernel) ?_ (fun w' hw' => Or.inl ?_) (fun K hK => ?_) | refine mixsq rfl rfl 3 (by decide +kernel) ?_ (fun w' hw' => Or.inl ?_) (fun K hK => ?_) | refine mixsq rfl rfl 4 (by decide +kernel) ?_ (fun w' hw' => Or.inl ?_) (fun K hK => ?_) | refine mixsq rfl rfl 5 (by decide +kernel) ?_ (fun w' hw' => Or.inl ?_) (fun K hK => ?_) | refine mixsq rfl rfl 6 (by decide +kernel) ?_ (fun w' hw' => Or.inl ?_) (fun K hK => ?_)); rotate_left; (focus (go_simp; rfl)); go_simp; refine hK _ ?_; clear hK K)
        (first | refine mixsq_yes rfl (by first | rfl | kernel_rfl) 0 (by decide +kernel) ?_ (fun w' hw' => Or.inl ?_) (fun K hK => ?_) | refine mixsq_yes rfl (by first | rfl | kernel_rfl) 1 (by decide +kernel) ?_ (fun w' hw' => Or.inl ?_) (fun K hK => ?_) | refine mixsq_yes rfl (by first | rfl | kernel_rfl) 2 (by decide +kernel) ?_ (fun w' hw' => Or.inl ?_) (fun K hK => ?_) | refine mixsq_yes rfl (by first | rfl | kernel_rfl) 3 (by decide +kernel) ?_ (fun w' hw' => Or.inl ?_) (fun K hK => ?_) | refine mixsq_yes rfl (by first | rfl | kernel_rfl) 4 (by decide +kernel) ?_ (fun w' hw' => Or.inl ?_) (fun K hK => ?_) | refine mixsq_yes rfl (by first | rfl | kernel_rfl) 5 (by decide +kernel) ?_ (fun w' hw' => Or.inl ?_) (fun K hK => ?_) | refine mixsq_yes rfl (by first | rfl | kernel_rfl) 6 (by decide +kernel) ?_ (fun w' hw' => Or.inl ?_) (fun K hK => ?_)); rotate_left; (focus (go_simp; rfl)); go_simp; refine hK _ ?_; clear hK K
        (first | refine mixsq_yes rfl (by first | rfl | kernel_rfl) 0 (by decide +kernel) ?_ (fun w' hw' => Or.inl ?_) (fun K hK => ?_) | refine mixsq_yes rfl (by first | rfl | kernel_rfl) 1 (by decide +kernel) ?_ (fun w' hw' => Or.inl ?_) (fun K hK => ?_) | refine mixsq_yes rfl (by first | rfl | kernel_rfl) 2 (by decide +kernel) ?_ (fun w' hw' => Or.inl ?_) (fun K hK => ?_) | refine mixsq_yes rfl (by first | rfl | kernel_rfl) 3 (by decide +kernel) ?_ (fun w' hw' => Or.inl ?_) (fun K hK => ?_) | refine mixsq_yes rfl (by first | rfl | kernel_rfl) 4 (by decide +kernel) ?_ (fun w' hw' => Or.inl ?_) (fun K hK => ?_) | refine mixsq_yes rfl (by first | rfl | kernel_rfl) 5 (by decide +kernel) ?_ (fun w' hw' => Or.inl ?_) (fun K hK => ?_) | refine mixsq_yes rfl (by first | rfl | kernel_rfl) 6 (by decide +kernel) ?_ (fun w' hw' => Or.inl ?_) (fun K hK => ?_)); rotate_left; (focus (have hb : Below w12.heap.size w12 w' := hw'; have s1 := run_str (P := Try.prog) w' 22 9 5 _ _ Try.underlying22 Try.underlying5 Try.underlying9 (hxR.out.below hb); unfold str at s1; go_simp; rfl)); go_simp; refine hK _ ?_; clear hK K
        (first | refine mixsq_yes rfl (by first | rfl | kernel_rfl) 0 (by decide +kernel) ?_ (fun w' hw' => Or.inl ?_) (fun K hK => ?_) | refine mixsq_yes rfl (by first | rfl | kernel_rfl) 1 (by decide +kernel) ?_ (fun w' hw' => Or.inl ?_) (fun K hK => ?_) | refine mixsq_yes rfl (by first | rfl | kernel_rfl) 2 (by decide +kernel) ?_ (fun w' hw' => Or.inl ?_) (fun K hK => ?_) | refine mixsq_yes rfl (by first | rfl | kernel_rfl) 3 (by decide +kernel) ?_ (fun w' hw' => Or.inl ?_) (fun K hK => ?_) | refine mixsq_yes rfl (by first | rfl | kernel_rfl) 4 (by decide +kernel) ?_ (fun w' hw' => Or.inl ?_) (fun K hK => ?_) | refine mixsq_yes rfl (by first | rfl | kernel_rfl) 5 (by decide +kernel) ?_ (fun w' hw' => Or.inl ?_) (fun K hK => ?_) | refine mixsq_yes rfl (by first | rfl | kernel_rfl) 6 (by decide +kernel) ?_ (fun w' hw' => Or.inl ?_) (fun K hK => ?_)); rotate_left; (focus (go_simp; rfl)); go_simp; refine hK _ ?_; clear hK K
        refine mixsl_yes rfl (by first | rfl | kernel_rfl) (fun K hK => ?_)
        go_simp
        have b5 : Below w12.heap.size w12 (w12.drew.alloc (.cells #[bv ck] 5)) := ((Below.refl w12.heap.size w12).drew).alloc (Nat.le_refl _) _
        refine hK (fun W => Below w12.heap.size w12 W) _ _ (fun _ => ⟨b5, fun _ => b5⟩) ?_
        clear hK K
        refine mixsl_yes rfl (by first | rfl | kernel_rfl) (fun K hK => ?_)
        go_simp
        refine (FullOne w12.drew ck).mono ?_
        rintro e w13 ⟨fA2, fc2, rfl, hfo, hfb⟩
        have b7 : Below w12.heap.size w12 w13 := ⟨hfb.os, hfb.tape, hfb.output, hfb.size, hfb.block⟩
        have r7 := Rd.of_own hfo
        rw [← hLL.out] at r7
        refine hK (fun W => Below w12.heap.size w12 W ∧ Rd W (.slice fA2 512 fc2) (bvs LL)) _ _ (fun _ => ⟨⟨b7, r7⟩, ext_all (fun _ => b7) b7⟩) ?_
        clear hK K
        (refine mixsq_yes rfl (by first | rfl | kernel_rfl) 2 (by decide +kernel) ?_ (fun w' hw' => Or.inl ?_) (fun K hK => ?_)); rotate_left; (focus (have hb : Below w12.heap.size w12 w' ∧ Rd w' (.slice fA2 512 fc2) (bvs LL) := hw'; have s1 := run_str (P := Try.prog) w' 22 9 5 _ _ Try.underlying22 Try.underlying5 Try.underlying9 hb.2; unfold str at s1; go_simp; rfl)); go_simp; refine hK _ ?_; clear hK K
        (first | refine mixsq_yes rfl (by first | rfl | kernel_rfl) 0 (by decide +kernel) ?_ (fun w' hw' => Or.inl ?_) (fun K hK => ?_) | refine mixsq_yes rfl (by first | rfl | kernel_rfl) 1 (by decide +kernel) ?_ (fun w' hw' => Or.inl ?_) (fun K hK => ?_) | refine mixsq_yes rfl (by first | rfl | kernel_rfl) 2 (by decide +kernel) ?_ (fun w' hw' => Or.inl ?_) (fun K hK => ?_) | refine mixsq_yes rfl (by first | rfl | kernel_rfl) 3 (by decide +kernel) ?_ (fun w' hw' => Or.inl ?_) (fun K hK => ?_) | refine mixsq_yes rfl (by first | rfl | kernel_rfl) 4 (by decide +kernel) ?_ (fun w' hw' => Or.inl ?_) (fun K hK => ?_) | refine mixsq_yes rfl (by first | rfl | kernel_rfl) 5 (by decide +kernel) ?_ (fun w' hw' => Or.inl ?_) (fun K hK => ?_) | refine mixsq_yes rfl (by first | rfl | kernel_rfl) 6 (by decide +kernel) ?_ (fun w' hw' => Or.inl ?_) (fun K hK => ?_)); rotate_left; (focus (go_simp; rfl)); go_simp; refine hK _ ?_; clear hK K
        (first | refine mixsq rfl rfl 0 (by decide +kernel) ?_ (fun w' hw' => Or.inl ?_) (fun K hK => ?_) | refine mixsq rfl rfl 1 (by decide +kernel) ?_ (fun w' hw' => Or.inl ?_) (fun K hK => ?_) | refine mixsq rfl rfl 2 (by decide +kernel) ?_ (fun w' hw' => Or.inl ?_) (fun K hK => ?_) | refine mixsq rfl rfl 3 (by decide +kernel) ?_ (fun w' hw' => Or.inl ?_) (fun K hK => ?_) | refine mixsq rfl rfl 4 (by decide +kernel) ?_ (fun w' hw' => Or.inl ?_) (fun K hK => ?_) | refine mixsq rfl rfl 5 (by decide +kernel) ?_ (fun w' hw' => Or.inl ?_) (fun K hK => ?_) | refine mixsq rfl rfl 6 (by decide +kernel) ?_ (fun w' hw' => Or.inl ?_) (fun K hK => ?_)); rotate_left; (focus (go_simp; rfl)); go_simp; refine hK _ ?_; clear hK K
        (first | refine mixsq rfl rfl 0 (by decide +kernel) ?_ (fun w' hw' => Or.inl ?_) (fun K hK => ?_) | refine mixsq rfl rfl 1 (by decide +kernel) ?_ (fun w' hw' => Or.inl ?_) (fun K hK => ?_) | refine mixsq rfl rfl 2 (by decide +kernel) ?_ (fun w' hw' => Or.inl ?_) (fun K hK => ?_) | refine mixsq rfl rfl 3 (by decide +kernel) ?_ (fun w' hw' => Or.inl ?_) (fun K hK => ?_) | refine mixsq rfl rfl 4 (by decide +kernel) ?_ (fun w' hw' => Or.inl ?_) (fun K hK => ?_) | refine mixsq rfl rfl 5 (by decide +kernel) ?_ (fun w' hw' => Or.inl ?_) (fun K hK => ?_) | refine mixsq rfl rfl 6 (by decide +kernel) ?_ (fun w' hw' => Or.inl ?_) (fun K hK => ?_)); rotate_left; (focus (go_simp; rfl)); go_simp; refine hK _ ?_; clear hK K
        refine mixs_nil ?_
        have hBe := hBW.out.trans (b7.mono hBW.out.size)
        go_wp2
        go_ret
        exact ⟨rfl, hBe⟩
end Go.Proofs.Ytjldjfipacagdaa
