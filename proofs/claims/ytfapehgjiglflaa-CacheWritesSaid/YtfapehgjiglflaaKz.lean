/- The cache: Flush, as long as the disk has power and is not armed. -/
import Derived.Test.YtfapehgjiglflaaCow
namespace Go.Proofs.Ytfapehgjiglflaa
open Go.RowKit
theorem KTo.pre {w w1 w' : World} {gc g mb N : Nat} {c' : Ck} {d' : Dk} {ns ns' : List (Nat × Hd)} {S : Nat → Prop} (hB : Below w.heap.size w w1) (h : KTo w1 gc g mb N ns S c' d' ns' w') : KTo w gc g mb N ns S c' d' ns' w' := by
  obtain ⟨S', hk, hc, hs⟩ := h
  exact ⟨S', hk, ((Chg.of_below hB).mono (fun j hj e => absurd hj (by have : w.heap.size ≤ j := e; omega))).trans hc, fun j hj => (hs j hj).imp id fun e => Nat.le_trans hB.size e⟩
theorem writeP_okK {d : Dk} {n : Nat} {b : List UInt8} (ho : d.off = false) (ha : ¬ 0 < d.arm) (hn : n < d.l.length) (hb : b.length = 512) : writeP d (n : Int) b = (0, addD d n b) := by
  have h0 : askP d n = 0 := by
    unfold askP
    rw [if_neg (by simp [ho]), if_neg (by omega)]
  unfold writeP
  rw [if_neg (by simp [h0]), if_neg (by simp [hb]), if_neg (by omega), if_neg ha]
  rfl
def clnH (h : Hd) : Hd := ⟨h.n, h.b, false, h.pins⟩
def clnIf (ks : List Nat) (h : Hd) : Hd := if h.n ∈ ks then clnH h else h
theorem clnIf_n (ks : List Nat) (h : Hd) : (clnIf ks h).n = h.n := by unfold clnIf; split <;> rfl
theorem clnIf_b (ks : List Nat) (h : Hd) : (clnIf ks h).b = h.b := by unfold clnIf; split <;> rfl
def clnN (ks : List Nat) (ns : List (Nat × Hd)) : List (Nat × Hd) := ns.map fun x => (x.1, clnIf ks x.2)
theorem clnN_keys (ks : List Nat) (ns : List (Nat × Hd)) : (clnN ks ns).map (·.1) = ns.map (·.1) := by simp [clnN]
def flC (c : Ck) (ks : List Nat) : Ck := ⟨c.size, c.l.map (clnIf ks), c.hits, c.misses, c.evs⟩
def bOf (l : List Hd) (n : Nat) : List UInt8 := ((l.find? fun h => h.n == n).map Hd.b).getD []
def flD (l : List Hd) (d : Dk) (ks : List Nat) : Dk := ks.foldl (fun d n => addD d n (bOf l n)) d
theorem flD_succ (l : List Hd) (d : Dk) (xs : List Nat) {i : Nat} (h : i < xs.length) : flD l d (xs.take (i + 1)) = addD (flD l d (xs.take i)) xs[i] (bOf l xs[i]) := by
  unfold flD
  rw [List.take_succ_eq_append_getElem h, List.foldl_append]
  rfl
theorem flD_keep (l : List Hd) (d : Dk) (ks : List Nat) : (flD l d ks).l = d.l ∧ (flD l d ks).off = d.off ∧ (flD l d ks).arm = d.arm ∧ (flD l d ks).picks = d.picks ∧ (flD l d ks).wt.length = d.wt.length := by
  unfold flD
  induction ks generalizing d with
  | nil => exact ⟨rfl, rfl, rfl, rfl, rfl⟩
  | cons n r ih =>
    rw [List.foldl_cons]
    obtain ⟨h1, h2, h3, h4, h5⟩ := ih (addD d n (bOf l n))
    exact ⟨h1, h2, h3, h4, h5.trans (by show (List.set _ _ _).length = _; rw [List.length_set])⟩
theorem waitP_addK (d : Dk) (k : Nat) (b : List UInt8) : waitP (addD d k b) ≤ waitP d + 1 := by
  have hg : ∀ (l : List (List (List UInt8))) (k : Nat), ((l.set k (l.getD k [] ++ [b])).map List.length).sum ≤ (l.map List.length).sum + 1 := by
    intro l
    induction l with
    | nil => intro k; simp
    | cons a r ih =>
      intro k
      cases k with
      | zero => simp; omega
      | succ k =>
        have := ih k
        simp only [List.set_cons_succ, List.map_cons, List.sum_cons, List.getD_cons_succ] at this ⊢
        omega
  exact hg d.wt k
theorem flD_wait (l : List Hd) (d : Dk) (ks : List Nat) : waitP (flD l d ks) ≤ waitP d + ks.length := by
  unfold flD
  induction ks generalizing d with
  | nil => exact Nat.le_refl _
  | cons n r ih =>
    rw [List.foldl_cons, List.length_cons]
    have h1 := ih (addD d n (bOf l n))
    have h2 := waitP_addK d n (bOf l n)
    omega
theorem clnN_step {ns u v : List (Nat × Hd)} {x : Nat × Hd} {ks : List Nat} (h : ns = u ++ x :: v) (hd : (ns.map (·.2.n)).Nodup) : clnN (ks ++ [x.2.n]) ns = clnN ks u ++ (x.1, clnH (clnIf ks x.2)) :: clnN ks v := by
  subst h
  have hs := num_split hd
  have hk : ∀ l : List (Nat × Hd), x.2.n ∉ l.map (·.2.n) → clnN (ks ++ [x.2.n]) l = clnN ks l := fun l hl => by
    unfold clnN
    refine List.map_congr_left fun y hy => ?_
    have hne : y.2.n ≠ x.2.n := fun e => hl (List.mem_map.2 ⟨y, hy, e⟩)
    unfold clnIf
    by_cases hm : y.2.n ∈ ks
    · rw [if_pos hm, if_pos (List.mem_append.2 (.inl hm))]
    · rw [if_neg hm, if_neg (fun h => by rcases List.mem_append.1 h with h | h; exact hm h; exact hne (List.mem_singleton.1 h))]
  have e : clnN (ks ++ [x.2.n]) (u ++ x :: v) = clnN (ks ++ [x.2.n]) u ++ (x.1, clnIf (ks ++ [x.2.n]) x.2) :: clnN (ks ++ [x.2.n]) v := by simp [clnN]
  rw [e, hk u hs.1, hk v hs.2]
  congr 2
  unfold clnIf
  rw [if_pos (by simp)]
  split <;> rfl
theorem clnN_split (ks : List Nat) (u v : List (Nat × Hd)) (x : Nat × Hd) : clnN ks (u ++ x :: v) = clnN ks u ++ (x.1, clnIf ks x.2) :: clnN ks v := by simp [clnN]
def FReads (gc g mb N k : Nat) (ns : List (Nat × Hd)) (vb : Value) (W : World) : Prop := W.cell? ⟨gc, 0, none⟩ = some (.pointer (some ⟨g, 0, none⟩)) ∧ W.cell? ⟨gc, 2, none⟩ = some (.map (some mb)) ∧ W.cell? ⟨k, 1, none⟩ = some vb ∧ IM Try.prog 3 W mb N (mfN ns)
theorem FReads.chg {S : Nat → Prop} {gc g mb N k : Nat} {ns : List (Nat × Hd)} {vb : Value} {w w' : World} (h : FReads gc g mb N k ns vb w) (hc : Chg S w w') (h1 : ¬ S gc) (h2 : ¬ S k) (h3 : ¬ S mb) : FReads gc g mb N k ns vb w' := by
  obtain ⟨a, b, c, d⟩ := h
  have hk : ∀ {p : Addr} {u : Value}, ¬ S p.block → w.cell? p = some u → w'.cell? p = some u := fun hp hu => (World.cell?_of_block (hc.block _ (World.block_lt_of_cell? w _ hu) hp)).trans hu
  exact ⟨hk h1 a, hk h1 b, hk h2 c, d.chg hc h3⟩
def flushC (c : Ck) (N : Nat) : Ck := flC c (dirtyL c N)
def flushD (c : Ck) (d : Dk) (N : Nat) : Dk := syncD (flD c.l d (dirtyL c N))
set_option maxRecDepth 10000 in
set_option maxHeartbeats 8000000 in
theorem Flush_calls (w : World) {gc g mb N : Nat} {c : Ck} {d : Dk} {ns : List (Nat × Hd)} {S : Nat → Prop} (h : KC w gc g mb N c d ns S) (hN : N ≤ 1000) (hdk : Dko N d) (hwt : waitP d ≤ 100000) (h512 : ∀ x ∈ ns, x.2.b.length = 512) (ho : d.off = false) (ha : ¬ 0 < d.arm) :
    Calls Try.prog 18 #[.pointer (some ⟨gc, 0, none⟩)] w fun e w' => e = .returned (.int .i64 0) ∧ ∃ ns', KTo w gc g mb N ns S (flushC c N) (flushD c d N) ns' w' := by
  obtain ⟨xs, hxs⟩ : ∃ xs, Hid (dirtyL c N = xs) := ⟨_, rfl⟩
  have hD := DirtyN_calls w h (by omega)
  rw [hxs.out] at hD
  have hD := Lib.hid hD
  have hxm : Hid (∀ n ∈ xs, n < N ∧ n ∈ ns.map (·.2.n)) := fun n hn => by
    rw [← hxs.out] at hn
    unfold dirtyL at hn
    obtain ⟨h1, y, hy, e, _⟩ := mem_which.1 hn
    rw [← h.cl] at hy
    obtain ⟨z, hz, rfl⟩ := List.mem_map.1 hy
    exact ⟨h1, List.mem_map.2 ⟨z, hz, e⟩⟩
  have hxn : Hid (xs.Nodup) := by show List.Nodup _; rw [← hxs.out]; exact List.Pairwise.filter _ List.nodup_range
  have hxl : xs.length ≤ N := nodup_le hxn.out (fun k hk => (hxm.out k hk).1)
  have hcl := Lib.hid h.cl
  have hnum := Lib.hid h.num
  have hlo := Lib.hid h.lo
  have h5 := Lib.hid h512
  have h0 : Hid (KTo w gc g mb N ns S (flC c (xs.take 0)) (flD c.l d (xs.take 0)) (clnN (xs.take 0) ns) w) := by
    have e1 : flC c (xs.take 0) = c := by
      unfold flC
      have : c.l.map (clnIf (xs.take 0)) = c.l := by
        rw [List.map_congr_left (g := id) (fun y _ => by unfold clnIf; simp), List.map_id]
      rw [this]
    have e2 : clnN (xs.take 0) ns = ns := by
      unfold clnN
      rw [List.map_congr_left (g := id) (fun y _ => by unfold clnIf; simp), List.map_id]
    rw [e1, e2]
    exact KTo.refl h
  have hfin : Hid (flushC c N = flC c xs ∧ flushD c d N = syncD (flD c.l d xs)) := by
    unfold flushC flushD
    rw [hxs.out]
    exact ⟨rfl, rfl⟩
  have h00 : Hid (∀ w1, Below w.heap.size w w1 → KTo w1 gc g mb N ns S (flC c (xs.take 0)) (flD c.l d (xs.take 0)) (clnN (xs.take 0) ns) w1) := fun w1 hB => by
    have e1 : flC c (xs.take 0) = c := by
      unfold flC
      have : c.l.map (clnIf (xs.take 0)) = c.l := by
        rw [List.map_congr_left (g := id) (fun y _ => by unfold clnIf; simp), List.map_id]
      rw [this]
    have e2 : clnN (xs.take 0) ns = ns := by
      unfold clnN
      rw [List.map_congr_left (g := id) (fun y _ => by unfold clnIf; simp), List.map_id]
    rw [e1, e2]
    exact KTo.refl (h.below hB)
  have hSf : Hid (∀ j, (S j ∨ footK gc mb ns j) → j < w.heap.size) := fun j hj => by
    rcases hj with hj | hj
    · exact h.dk.lt hj
    · exact h.lt hj
  have hbl1 : Hid (∀ (W : World) {vA : Option Addr} {L vc : Nat}, Rd W (.slice vA L vc) (nvs xs) → ∀ j, (Value.slice vA L vc).ownBlock = some j → xs ≠ [] → j < W.heap.size) := fun W vA L vc hr j hj hne => by
    obtain ⟨A, c', e, _, hc⟩ := hr
    injection e with e1 _ _
    subst e1
    obtain ⟨ad, rfl, hcc⟩ := hc (fun e => hne (List.map_eq_nil_iff.1 e))
    cases xs with
    | nil => exact absurd rfl hne
    | cons a r =>
      have := World.block_lt_of_cell? W _ (hcc 0 _ rfl)
      rw [addr_add_block] at this
      simp [Value.ownBlock] at hj
      omega
  clear h h512
  go_enter Try.func18, Try.ntmps18
  go_wp2_with fail
  refine hD.out.mono ?_
  rintro e w1 ⟨v, rfl, hrd, hB1, hnw⟩
  obtain ⟨vA, vc, rfl⟩ := hrd.shapeN
  have hlt1 : ∀ j, (Value.slice vA xs.length vc).ownBlock = some j → xs ≠ [] → j < w1.heap.size := fun j hj hne => hbl1.out w1 hrd j hj hne
  have hrdT : Hid (∀ W, Below w1.heap.size w1 W → Rd W (.slice vA xs.length vc) (nvs xs)) := fun W hB => hrd.below hB
  have h1 : Hid (KTo w1 gc g mb N ns S (flC c (xs.take 0)) (flD c.l d (xs.take 0)) (clnN (xs.take 0) ns) w1) := h00.out w1 hB1
  have hBw := Lib.hid hB1
  have hnew : Hid (∀ j, (Value.slice vA xs.length vc).ownBlock = some j → xs ≠ [] → ¬ (S j ∨ footK gc mb ns j) ∧ j < w1.heap.size) := fun j hj hne => ⟨fun e => by have h3 := hnw j hj; have h4 := hSf.out j e; omega, hlt1 j hj hne⟩
  have hrd := Lib.hid hrd
  clear hB1 hD h0 hlt1 hnw
  obtain ⟨L, hL⟩ : ∃ L, Hid (L = xs.length) := ⟨_, rfl⟩
  rw [← hL.out] at hxl hrd hrdT hnew ⊢
  go_wp2
  go_loopw [4, 5, 9] (fun _ _ iv wr => ∃ i : Nat, i ≤ L ∧ iv = .int .i64 (i : Int) ∧ Hid (KTo w1 gc g mb N ns S (flC c (xs.take i)) (flD c.l d (xs.take i)) (clnN (xs.take i) ns) wr) ∧ Hid (Rd wr (.slice vA L vc) (nvs xs))) (fun _ _ iv _ => L - (RowKit.intOf iv).toNat)
  case atStart => exact ⟨0, Nat.zero_le _, rfl, h1.out, hrd.out⟩
  case round =>
    obtain ⟨i, hi, rfl, hK, hR⟩ := hrel
    clear h1 hrd
    by_cases hlt : i < L
    · have hix : i < xs.length := by rw [← hL.out]; exact hlt
      obtain ⟨ad, rfl, zc⟩ := hR.out.natAt hix
      obtain ⟨hnN, hnm⟩ := hxm.out _ (List.getElem_mem hix)
      obtain ⟨u, x, v, hns, hxe⟩ := split_of hnm
      obtain ⟨S1, hk1, hc1, hs1⟩ := hK.out
      obtain ⟨f1, f2, f3, f4, f5⟩ := flD_keep c.l d (xs.take i)
      have f6 := flD_wait c.l d (xs.take i)
      rw [List.length_take] at f6
      have hsp : clnN (xs.take i) ns = clnN (xs.take i) u ++ (x.1, clnIf (xs.take i) x.2) :: clnN (xs.take i) v := by rw [hns]; exact clnN_split _ _ _ _
      have hnx := clnN_step (ks := xs.take i) hns hnum.out
      rw [hxe, ← List.take_succ_eq_append_getElem hix] at hnx
      have hxb : x.2.b.length = 512 := h5.out x (by rw [hns]; simp)
      have hbo : bOf c.l xs[i] = x.2.b := by
        unfold bOf
        rw [← hcl.out, hns, ← hxe, find_at (by rw [← hns]; exact hnum.out)]
        rfl
      have hdn := flD_succ c.l d xs hix
      rw [hbo] at hdn
      rw [hsp] at hk1
      have hkd := hk1.below (drew_below wr)
      obtain ⟨vb, lp, lq, hBk, hrb⟩ := hk1.km.nod (x.1, clnIf (xs.take i) x.2) (by simp)
      rw [clnIf_b] at hrb
      obtain ⟨bA, bc, rfl⟩ := hrb.shape
      have hbl : (bvs x.2.b).length = 512 := by rw [bvs_length, hxb]
      rw [hbl] at hrb hBk
      obtain ⟨p0, q0, hGk⟩ := hk1.km.cb
      have hFR : FReads gc g mb N x.1 (clnN (xs.take i) u ++ (x.1, clnIf (xs.take i) x.2) :: clnN (xs.take i) v) (.slice bA 512 bc) wr.drew := ⟨hGk.cell 0, hGk.cell 2, hBk.cell 1, hkd.mp⟩
      have hat : mfN (clnN (xs.take i) u ++ (x.1, clnIf (xs.take i) x.2) :: clnN (xs.take i) v) xs[i] = some (.pointer (some ⟨x.1, 0, none⟩)) := by
        have := mfN_at hk1.num
        rwa [show (x.1, clnIf (xs.take i) x.2).2.n = xs[i] by show (clnIf _ x.2).n = _; rw [clnIf_n, hxe]] at this
      have hfoot : ∀ j, footK gc mb (clnN (xs.take i) u ++ (x.1, clnIf (xs.take i) x.2) :: clnN (xs.take i) v) j → ¬ S1 j := fun j hj => hk1.notS hj
      have hWr := Lib.hid (Write_calls wr.drew g (flD c.l d (xs.take i)) S1 hkd.dk (xs[i] : Int) (.slice bA 512 bc) x.2.b hrb.1 (fun j hj hS => by
        obtain ⟨k', cs', e1, hB, _⟩ := hrb.2 (fun e => by rw [e] at hbl; cases hbl)
        rw [e1] at hj
        cases hj
        rcases hk1.dk.kind hS hB with e | e <;> exact absurd e (by decide)) (by omega) (by rw [f1, hdk.ll]; omega) (by omega) (by rw [f3]; exact hdk.ar) (by rw [f4]; exact hdk.pk))
      rw [writeP_okK (by rw [f2]; exact ho) (by rw [f3]; omega) (by rw [f1, hdk.ll]; exact hnN) hxb, ← hdn] at hWr
      have hb1 : ∀ j, (Value.slice (some ad) L vc).ownBlock = some j → ¬ (S1 j ∨ footK gc mb (clnN (xs.take i) u ++ (x.1, clnIf (xs.take i) x.2) :: clnN (xs.take i) v) j) := fun j hj e => by
        have hnew1 := hnew.out j hj (fun e => by rw [e] at hix; simp at hix)
        rcases hs1 j (by rw [hsp]; exact e) with e2 | e2
        · exact hnew1.1 e2
        · omega
      have hstore : Hid (∀ wE S2, KC wE gc g mb N (flC c (xs.take i)) (flD c.l d (xs.take (i + 1))) (clnN (xs.take i) u ++ (x.1, clnIf (xs.take i) x.2) :: clnN (xs.take i) v) S2 → Chg S1 wr wE → (∀ j, S2 j → S1 j ∨ wr.heap.size ≤ j) →
          (∃ vb2 lp2 lq2, Blk wE x.1 78 #[.int .i64 ((clnIf (xs.take i) x.2).n : Int), vb2, .bool (clnIf (xs.take i) x.2).dirty, .int .i64 (clnIf (xs.take i) x.2).pins, .pointer lp2, .pointer lq2]) ∧
          KTo w1 gc g mb N ns S (flC c (xs.take (i + 1))) (flD c.l d (xs.take (i + 1))) (clnN (xs.take (i + 1)) ns) (wE.setCell ⟨x.1, 2, none⟩ (.bool false)) ∧ Rd (wE.setCell ⟨x.1, 2, none⟩ (.bool false)) (.slice (some ad) L vc) (nvs xs)) := fun wE S2 hkE hcE hsE => by
        obtain ⟨vb2, lp2, lq2, hB2, hr2⟩ := hkE.km.nod (x.1, clnIf (xs.take i) x.2) (by simp)
        refine ⟨⟨vb2, lp2, lq2, hB2⟩, ?_, ?_⟩
        · have hn2 : Nod (wE.setCell ⟨x.1, 2, none⟩ (.bool false)) x.1 (clnH (clnIf (xs.take i) x.2)) := ⟨vb2, lp2, lq2, hB2.set_ 2 _, hr2.far (p := ⟨x.1, 2, none⟩) (fun cs hj => absurd rfl (hj.ne_ hB2 (by decide))) _⟩
          have hkF := KC.nset (x := (x.1, clnIf (xs.take i) x.2)) hkE (.bool false) (by omega) hn2 rfl
          have hce : (⟨(flC c (xs.take i)).size, (clnN (xs.take i) u ++ (x.1, clnH (clnIf (xs.take i) x.2)) :: clnN (xs.take i) v).map (·.2), (flC c (xs.take i)).hits, (flC c (xs.take i)).misses, (flC c (xs.take i)).evs⟩ : Ck) = flC c (xs.take (i + 1)) := by
            unfold flC
            rw [← hnx]
            congr 1
            rw [← hcl.out]
            simp [clnN]
          rw [hce, ← hnx] at hkF
          have hfk : ∀ j, footK gc mb (clnN (xs.take (i + 1)) ns) j ↔ footK gc mb (clnN (xs.take i) ns) j := fun j => by
            unfold footK
            rw [clnN_keys, clnN_keys]
          refine ⟨S2, hkF, ?_, fun j hj => ?_⟩
          · have hxk : footK gc mb (clnN (xs.take i) ns) x.1 := .inr (.inr (by rw [hsp]; simp))
            refine hc1.then_ (S' := fun j => S1 j ∨ footK gc mb (clnN (xs.take i) ns) j) ((hcE.mono (fun j _ e => .inl e)).at_ (.inr hxk) _) (fun j hj e => ?_)
            rcases hs1 j e with e2 | e2
            · exact e2
            · omega
          · rcases hj with hj | hj
            · rcases hsE j hj with e | e
              · exact hs1 j (.inl e)
              · exact .inr (Nat.le_trans hc1.size e)
            · exact hs1 j (.inr ((hfk j).1 hj))
        · have hc2 : Chg (fun j => S1 j ∨ footK gc mb (clnN (xs.take i) u ++ (x.1, clnIf (xs.take i) x.2) :: clnN (xs.take i) v) j) wr (wE.setCell ⟨x.1, 2, none⟩ (.bool false)) := (hcE.mono (fun j _ e => .inl e)).at_ (.inr (.inr (.inr (by simp)))) _
          exact hR.out.chg hc2 hb1
      have hFRh := Lib.hid hFR
      have hzl : ∀ W, IM Try.prog 3 W mb N (mfN (clnN (xs.take i) u ++ (x.1, clnIf (xs.take i) x.2) :: clnN (xs.take i) v)) → (Instr.lookup 75 (.map (some mb)) (.int .i64 (xs[i] : Int)) false).run Try.prog W = .ok (.pointer (some ⟨x.1, 0, none⟩)) W := fun W hm => by
        have h1 := hm.run_lookup (mt := 75) (et := 76) Try.underlying3 Try.underlying75 (zero_hp W) (k := xs[i]) (by omega)
        rw [hat] at h1
        exact h1
      have hzlh := Lib.hid hzl
      have hgm : Hid (¬ S1 gc ∧ ¬ S1 x.1 ∧ ¬ S1 mb) := ⟨hfoot gc (.inl rfl), hfoot x.1 (.inr (.inr (by simp))), hfoot mb (.inr (.inl rfl))⟩
      have hkdh := Lib.hid hkd
      clear hk1 hc1 hs1 f1 f2 f3 f4 f5 f6 hsp hnx hbo hdn hkd hBk hrb hGk hFR hat hfoot hb1 hzl hK hbl hxb hns hxe hnm hR
      generalize xs[i] = nn at *
      go_wp2_with fail
      refine wp_mixs (FReads gc g mb N x.1 (clnN (xs.take i) u ++ (x.1, clnIf (xs.take i) x.2) :: clnN (xs.take i) v) (.slice bA 512 bc)) [14] (by kernel_rfl) (by kernel_rfl) (by kernel_rfl) (by decide) hFRh.out ?_
      iterate 14 ((first | refine mixsq rfl rfl 0 (by decide +kernel) ?_ (fun w' hw' => Or.inl ?_) (fun K hK => ?_) | refine mixsq rfl rfl 1 (by decide +kernel) ?_ (fun w' hw' => Or.inl ?_) (fun K hK => ?_) | refine mixsq rfl rfl 2 (by decide +kernel) ?_ (fun w' hw' => Or.inl ?_) (fun K hK => ?_) | refine mixsq rfl rfl 3 (by decide +kernel) ?_ (fun w' hw' => Or.inl ?_) (fun K hK => ?_)); rotate_left; (focus (obtain ⟨z1, z2, z3, z4⟩ := hw'; have z5 := hzlh.out w' z4; go_simp; rfl)); go_simp; refine hK _ ?_; clear hK K)
      refine mixsl rfl rfl (fun K hK => ?_)
      go_simp
      refine hWr.out.mono ?_
      rintro e wE ⟨rfl, hw⟩
      obtain ⟨S2, hkE, hcE, hsE⟩ := hkdh.out.disk hw
      have hcE' : Chg S1 wr wE := Chg.trans (b := wr.drew) ⟨rfl, rfl, rfl, Nat.le_refl _, fun _ _ _ => rfl⟩ hcE
      have hFE := hFRh.out.chg hcE hgm.out.1 hgm.out.2.1 hgm.out.2.2
      refine hK (fun _ => True) _ _ (fun _ => ⟨trivial, fun _ => hFE⟩) ?_
      clear hK K
      (first | refine mixsq rfl rfl 0 (by decide +kernel) ?_ (fun w' hw' => Or.inl ?_) (fun K hK => ?_) | refine mixsq rfl rfl 1 (by decide +kernel) ?_ (fun w' hw' => Or.inl ?_) (fun K hK => ?_) | refine mixsq rfl rfl 2 (by decide +kernel) ?_ (fun w' hw' => Or.inl ?_) (fun K hK => ?_) | refine mixsq rfl rfl 3 (by decide +kernel) ?_ (fun w' hw' => Or.inl ?_) (fun K hK => ?_)); rotate_left; (focus (go_simp; rfl)); go_simp; refine hK _ ?_; clear hK K
      refine mixs_nil ?_
      obtain ⟨⟨vb2, lp2, lq2, hB2⟩, hKn, hRn⟩ := hstore.out wE S2 hkE hcE' hsE
      have c2 : wE.cell? ⟨gc, 2, none⟩ = some (.map (some mb)) := hFE.2.1
      have hlk := hzlh.out wE hFE.2.2.2
      have d2 : wE.cell? ⟨x.1, 2, none⟩ = some (.bool (clnIf (xs.take i) x.2).dirty) := hB2.cell 2
      have f2 := hB2.frozen 2
      have hKn := Lib.hid hKn
      have hRn := Lib.hid hRn
      clear hw hkE hcE hsE hcE' hFE hB2 hstore hWr hFRh hzlh hkdh
      go_wp2
      go_roundw
      case rel => exact ⟨i + 1, by omega, by go_num, hKn, hRn⟩
      case measure => simp [RowKit.intOf]; omega
    · obtain rfl : i = L := by omega
      have hall : Hid (xs.take i = xs) := by show _ = _; rw [hL.out, List.take_length]
      rw [hall.out] at hK
      obtain ⟨S1, hk1, hc1, hs1⟩ := hK.out
      obtain ⟨f1, f2, f3, f4, f5⟩ := flD_keep c.l d xs
      have f6 := flD_wait c.l d xs
      have hSy := Lib.hid (Sync_calls wr g (flD c.l d xs) S1 hk1.dk (by rw [f2]; exact ho) (by rw [f1, hdk.ll]; omega) (by have := hL.out; omega))
      obtain ⟨p0, q0, hGk⟩ := hk1.km.cb
      have c0 : wr.cell? ⟨gc, 0, none⟩ = some (.pointer (some ⟨g, 0, none⟩)) := hGk.cell 0
      have hend : Hid (∀ w', Wrote wr S1 g (syncD (flD c.l d xs)) w' → ∃ ns', KTo w gc g mb N ns S (flushC c N) (flushD c d N) ns' w') := fun w' hw => by
        obtain ⟨S2, hkE, hcE, hsE⟩ := hk1.disk hw
        rw [hfin.out.1, hfin.out.2]
        refine ⟨_, KTo.pre hBw.out (c' := flC c xs) (ns' := clnN xs ns) ⟨S2, hkE, hc1.then_ hcE (fun j hj e => ?_), fun j hj => ?_⟩⟩
        · rcases hs1 j (.inl e) with e2 | e2
          · exact e2
          · omega
        · rcases hj with hj | hj
          · rcases hsE j hj with e | e
            · exact hs1 j (.inl e)
            · exact .inr (Nat.le_trans hc1.size e)
          · exact hs1 j (.inr hj)
      clear hk1 hc1 hs1 f1 f2 f3 f4 f5 f6 hGk hK hR hall
      go_wp2_with fail
      refine hSy.out.mono ?_
      rintro e wF ⟨rfl, hw⟩
      have hF := Lib.hid (hend.out wF hw)
      clear hw hend hSy
      go_wp2
      go_ret
      exact ⟨rfl, hF.out⟩
end Go.Proofs.Ytfapehgjiglflaa
