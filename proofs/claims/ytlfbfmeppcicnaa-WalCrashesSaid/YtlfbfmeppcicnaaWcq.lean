/- WalCrashes: an Opening over a disk that may be armed, in plain words; does a log that may be armed tell just these blocks? Printed by genwcp.py. WalCrashes: its world in memory; arm, act, Twin. Printed by genwcm.py. WalCrashes: act, open. Printed by genwco.py. WalCrashes: open. Printed by genwcq.py. -/
import Derived.Test.YtlfbfmeppcicnaaWpy
import Derived.Laws.Tables
import Derived.Laws.CopyOwn
namespace Go.Proofs.Ytlfbfmeppcicnaa
open Go.RowKit
/-- A log that reads D. -/
structure RL (gl B : Nat) (D : Nat → List UInt8) (w : World) : Prop where
  rd : ∀ n, Calls Try.prog 23 #[.pointer (some ⟨gl, 0, none⟩), .int .i64 n] w (RdOut w (if n < 0 ∨ (B : Int) ≤ n then 1 else 0) (D n.toNat))
  bl : Calls Try.prog 22 #[.pointer (some ⟨gl, 0, none⟩)] w (Ans w (.int .i64 (B : Int)))
theorem rangeL_at {B : Nat} {D : Nat → List UInt8} {n : Nat} (h : n < B) : ((List.range B).map D)[n]? = some (D n) := by
  rw [List.getElem?_map, List.getElem?_range h]
  rfl
set_option maxRecDepth 10000 in
set_option maxHeartbeats 4000000 in
theorem all_callsG {w : World} {gl B : Nat} {D : Nat → List UInt8} (h : ∀ W, Below w.heap.size w W → RL gl B D W) (h5 : ∀ n, n < B → (D n).length = 512) (hB16 : B ≤ 16000) (v : Value) (us : List (List UInt8)) (hv : Rd w v (us.map str)) (hl : us.length ≤ 1000000) :
    Calls Try.prog 26 #[.pointer (some ⟨gl, 0, none⟩), v] w fun e w' => e = .returned (.bool (decide (us = (List.range B).map D))) ∧ Below w.heap.size w w' := by
  obtain ⟨vA, vc, rfl⟩ : ∃ A c, v = .slice A us.length c := by
    obtain ⟨A, c, rfl, _⟩ := hv
    exact ⟨A, c, by simp⟩
  obtain ⟨b, hb⟩ : ∃ b, Hid (decide (us = (List.range B).map D) = b) := ⟨_, Lib.hid rfl⟩
  rw [hb.out]
  have hno : Hid (∀ n, n < us.length → n < B → ∀ hn : n < us.length, us[n]'hn ≠ D n → b = false) := fun n h1 h2 hn hne => by
    rw [← hb.out, decide_eq_false_iff_not]
    intro e
    apply hne
    have h3 := rangeL_at (D := D) h2
    rw [← e, List.getElem?_eq_getElem hn] at h3
    exact Option.some.inj h3
  have hlen : Hid (us.length ≠ B → b = false) := fun hne => by
    rw [← hb.out, decide_eq_false_iff_not]
    intro e
    apply hne
    rw [e, List.length_map, List.length_range]
  have hyes : Hid (us.length = B → (∀ n, n < us.length → us[n]? = some (D n)) → b = true) := fun h1 h2 => by
    rw [← hb.out, decide_eq_true_iff]
    apply List.ext_getElem?
    intro i
    rcases Nat.lt_or_ge i us.length with hi | hi
    · rw [h2 i hi, rangeL_at (by omega)]
    · rw [List.getElem?_eq_none hi, List.getElem?_eq_none (by rw [List.length_map, List.length_range]; omega)]
  have hh := Lib.hid h
  have hvh := Lib.hid hv
  obtain ⟨L, hL⟩ : ∃ L, Hid (us.length = L) := ⟨_, Lib.hid rfl⟩
  rw [hL.out] at hvh hl hlen ⊢
  have h5h := Lib.hid h5
  clear h hv hb h5
  go_enter Try.func26, Try.ntmps26
  go_wp2
  go_loopw [5] (fun iv wr => ∃ i : Nat, i ≤ L ∧ i ≤ B ∧ iv = .int .i64 (i : Int) ∧ Hid (Below w.heap.size w wr) ∧ Hid (∀ n, n < i → us[n]? = some (D n))) (fun iv _ => L - (RowKit.intOf iv).toNat)
  case atStart => exact ⟨0, Nat.zero_le _, Nat.zero_le _, rfl, Below.refl _ _, fun n hn => by omega⟩
  case round =>
    obtain ⟨i, hi, hiB, rfl, hBe, hok⟩ := hrel
    have hc := fun W hW => hh.out W (hBe.out.trans (Below.mono (w := wr) (w' := W) hW hBe.out.size))
    by_cases hiL : i < L
    · have hil : i < us.length := by rw [hL.out]; exact hiL
      have hR := (hc wr (Below.refl _ _)).rd (i : Int)
      obtain ⟨ad, rfl, hcl⟩ := (hvh.out.below hBe.out).strAt hil
      by_cases hib : i < B
      · rw [if_neg (by omega), Int.toNat_natCast] at hR
        have h5 := Lib.hid (h5h.out i hib)
        have hR := Lib.hid hR
        have hcl2 := Lib.hid (fun W (hW : Below wr.heap.size wr W) => (((hvh.out.below hBe.out).below hW).strAt hil))
        have hnext : Hid (us[i]'hil = D i → ∀ n, n < i + 1 → us[n]? = some (D n)) := fun he n hn => by
          by_cases e : n = i
          · subst e
            rw [List.getElem?_eq_getElem hil, he]
          · exact hok.out n (by omega)
        have hbad : Hid (us[i]'hil ≠ D i → b = false) := fun he => hno.out i hil (hib) hil he
        clear hc hcl
        go_wp2_with fail
        refine hR.out.mono ?_
        intro e w2 hr
        obtain ⟨bx, cx, rfl, hx, hxb, _, _⟩ := hr.ok rfl h5.out
        have s1 := fun n => run_str (P := Try.prog) (w2.drewN n) 32 9 5 _ _ Try.underlying32 Try.underlying5 Try.underlying9 ((Rd.of_own hx).drewN n)
        obtain ⟨ad2, e2, z2⟩ := hcl2.out w2 hxb
        cases e2
        have hB2 : Hid (Below w.heap.size w w2) := hBe.out.trans (hxb.mono hBe.out.size)
        have hbe := str_beq (D i) (us[i]'hil)
        unfold str at s1 z2
        obtain ⟨us_i, hui⟩ : ∃ u, Hid (us[i]'hil = u) := ⟨_, Lib.hid rfl⟩
        rw [hui.out] at z2 hbe hnext hbad
        have hiL' : (i : Int) < (L : Int) := by omega
        by_cases heq : D i = us_i
        · have hn1 := Lib.hid (hnext.out heq.symm)
          rw [decide_eq_true heq] at hbe
          clear hr hR hx hxb hnext hbad heq hui h5 hcl2
          generalize (⟨(D i).toArray⟩ : ByteArray) = p at *
          generalize (⟨us_i.toArray⟩ : ByteArray) = p2 at *
          go_wp2_with fail
          go_quiet (fail)
          clear z2 s1
          go_wp2
          go_roundw
          case rel => exact ⟨i + 1, by omega, by omega, by go_num, below_drewN hB2.out _, hn1⟩
          case measure => simp [RowKit.intOf]; omega
        · have hn1 : Hid (b = false) := hbad.out fun e => heq e.symm
          rw [decide_eq_false heq] at hbe
          clear hr hR hx hxb hnext hbad heq hui h5 hcl2
          generalize (⟨(D i).toArray⟩ : ByteArray) = p at *
          generalize (⟨us_i.toArray⟩ : ByteArray) = p2 at *
          go_wp2_with fail
          go_quiet (fail)
          clear z2 s1
          go_wp2
          go_ret
          rw [hn1.out]
          exact ⟨rfl, below_drewN hB2.out _⟩
      · rw [if_pos (by omega)] at hR
        have hn1 : Hid (b = false) := hlen.out (by omega)
        have hR := Lib.hid hR
        clear hc hcl
        go_wp2_with fail
        refine hR.out.mono ?_
        intro e w2 hr
        obtain ⟨rfl, rfl⟩ := hr.bad (by decide)
        clear hr hR
        go_wp2_with fail
        go_quiet (fail)
        go_wp2
        go_ret
        rw [hn1.out]
        exact ⟨rfl, below_drewN hBe.out _⟩
    · obtain rfl : i = L := by omega
      have hR := (hc wr (Below.refl _ _)).rd (i : Int)
      have hBl := Lib.hid (fun W (hW : Below wr.heap.size wr W) => (hc W hW).bl)
      by_cases hib : i < B
      · rw [if_neg (by omega), Int.toNat_natCast] at hR
        have hn1 : Hid (b = false) := hlen.out (by omega)
        have h5 := Lib.hid (h5h.out i hib)
        skip
        have hR := Lib.hid hR
        clear hc
        go_wp2_with fail
        refine hR.out.mono ?_
        intro e w2 hr
        obtain ⟨bx, cx, rfl, hx, hxb, _, _⟩ := hr.ok rfl h5.out
        have hB2 : Hid (Below w.heap.size w w2) := hBe.out.trans (hxb.mono hBe.out.size)
        have hBl2 := hBl.out w2 hxb
        skip
        have hne : ((B : Int) == (i : Int)) = false := by rw [beq_eq_false_iff_ne]; omega
        clear hr hR hx hxb
        go_wp2_with fail
        refine hBl2.mono ?_
        rintro e w3 ⟨rfl, rfl⟩
        clear hBl2
        go_wp2
        go_ret
        rw [hn1.out]
        exact ⟨rfl, hB2.out⟩
      · obtain rfl : i = B := by omega
        rw [if_pos (by omega)] at hR
        have hn1 : Hid (b = true) := hyes.out (by rw [hL.out]) fun n hn => hok.out n (by rw [← hL.out]; exact hn)
        have hR := Lib.hid hR
        clear hc
        go_wp2_with fail
        refine hR.out.mono ?_
        intro e w2 hr
        obtain ⟨rfl, rfl⟩ := hr.bad (by decide)
        have hBl2 := hBl.out wr (Below.refl _ _)
        skip
        clear hr hR
        go_wp2_with fail
        refine hBl2.mono ?_
        rintro e w3 ⟨rfl, rfl⟩
        clear hBl2
        go_wp2
        go_ret
        rw [hn1.out]
        exact ⟨by simp, hBe.out⟩
theorem openP_tr {d : Dk} {L D : Nat → List UInt8} (h : Pq 135 L (fun k b => b = L k) d) (hr : Rep 135 L D) :
    (∃ V', (openP d).1 = 0 ∧ Pq 135 V' (fun k b => b = V' k) (openP d).2 ∧ HomeOk 135 V' D) ∨ ((openP d).1 = 6 ∧ Cq 135 (fun L' => Rep 135 L' D) (openP d).2) := by
  have hr0 := hr
  obtain ⟨ns, r1, r2, r3, r4, r5, r6⟩ := hr
  have ha : askW d = 0 := by
    unfold askW
    rw [if_neg (by rw [h.dl]; omega), if_neg (by simp [h.of])]
  unfold openP
  rw [if_neg (by simp [ha]), h.vw 0 (by omega), r4, headsP_headP r1 (by rw [h.dl]; exact r3) (by rw [h.dl]; omega)]
  dsimp only
  by_cases hn : ns = []
  · rw [if_pos hn]
    subst hn
    exact .inl ⟨L, rfl, h, r4, fun n hn => r6 n hn (by simp)⟩
  · rw [if_neg hn]
    obtain ⟨V', ht, hh⟩ := settle_tr (A := fun k x => x = L k) (by omega) r1 r2 r3 r4 r5 r6 h.b5
    rcases ht d h with ⟨e, hp⟩ | ⟨e, hc⟩
    · exact .inl ⟨V', e, hp, hh⟩
    · exact .inr ⟨e, hc⟩
theorem numsP_lenC : ∀ (k : Nat) (l : List UInt8), (numsP k l).length = k
  | 0, _ => rfl
  | k + 1, l => by
    show (numsP k (l.drop 2)).length + 1 = k + 1
    rw [numsP_lenC k]
theorem headsP_lenC {b : List UInt8} {n : Nat} {ns : List Nat} (h : headsP b n = some ns) : ns.length ≤ 63 := by
  unfold headsP at h
  split at h
  · cases h
  · split at h
    · cases h
    · split at h
      · injection h with h
        subst h
        rw [numsP_lenC]
        omega
      · cases h
theorem Fit.openP {M : Nat} {d : Dk} (h : Fit 135 M d) : Fit 135 (M + 400) (openP d).2 := by
  unfold Go.Proofs.Ytlfbfmeppcicnaa.openP
  split
  · exact h.mono (by omega)
  · split
    · exact h.mono (by omega)
    · rename_i ns hns
      split
      · exact h.mono (by omega)
      · have h2 := Gr.settleW 135 ns M d h
        refine h2.mono ?_
        have hl : ns.length ≤ 63 := headsP_lenC hns
        omega
end Go.Proofs.Ytlfbfmeppcicnaa
namespace Go.Proofs.Ytlfbfmeppcicnaa
open Go.RowKit
theorem stop_store {P : Program} (t : TypeId) {w : World} {ops : Array Oper} {rest : List Oper} {dst : Option Tmp} {ty : TypeId} {pos : String} {after : Array Edge} {g : Option (Nat × Bool)} {a : Act} {Q : Exit → Act → World → Prop} {x y : Operand}
    (h : Stop (wpList P ops Q (⟨dst, .store t x y, ty, pos, after, g⟩ :: rest) a w)) : wpList P ops Q (⟨dst, .store t x y, ty, pos, after, g⟩ :: rest) a w := h
/-- Where the power goes. -/
structure CutV where
  n : Int
  pv : Value
  p : List Int
def CutV.row (a : CutV) : List Value := [.int .i64 a.n, a.pv]
def CutV.ok (w : World) (a : CutV) : Prop := Rd w a.pv (ivs a.p) ∧ a.p.length ≤ 9223372036854775807 ∧ (Lit.int .i64 a.n).wf = true
def RdC (w : World) (x : Value) (l : List CutV) : Prop := (∃ A c, x = .slice A l.length c ∧ l.length ≤ c) ∧ RdF 2 w x (l.map CutV.row) ∧ ∀ a ∈ l, a.ok w
theorem CutV.ok.below {w w' : World} {a : CutV} (h : a.ok w) (hb : Below w.heap.size w w') : a.ok w' := ⟨h.1.below hb, h.2⟩
theorem RdC.below {w w' : World} {x : Value} {l : List CutV} (h : RdC w x l) (hb : Below w.heap.size w w') : RdC w' x l := ⟨h.1, h.2.1.below hb, fun a ha => (h.2.2 a ha).below hb⟩
theorem RdC.at_ {w : World} {A : Option Addr} {n c : Nat} {l : List CutV} (h : RdC w (.slice A n c) l) {k : Nat} (hk : k < l.length) :
    ∃ ad, A = some ad ∧ w.cell? (ad.add (k * 2)) = some (.int .i64 l[k].n) ∧ w.cell? ⟨(ad.add (k * 2)).block, (ad.add (k * 2)).off + 1, none⟩ = some l[k].pv := by
  obtain ⟨ad, e, hc⟩ := RdF.at_ h.2.1 (k := k) (by rw [List.length_map]; exact hk)
  rw [List.getElem_map] at hc
  refine ⟨ad, e, ?_, add_cellA (j := 0) (hc 1 _ rfl)⟩
  have := hc 0 _ rfl
  simpa [addr_add_add] using this
theorem addr_add0 (a : Addr) : a.add 0 = a := by unfold Addr.add; rw [if_pos rfl]
/-- All but the first. -/
theorem RdC.drop {w : World} {ad : Addr} {n c : Nat} {a : CutV} {l : List CutV} (h : RdC w (.slice (some ad) (n + 1) c) (a :: l)) : RdC w (.slice (if c = 1 then some ad else some (ad.add 2)) n (c - 1)) l := by
  obtain ⟨⟨A', c', e, hc⟩, hr, hok⟩ := h
  injection e with e1 e2 e3
  subst e1 e3
  have hn : n = l.length := by simpa using e2
  subst hn
  have hc : l.length + 1 ≤ c := hc
  refine ⟨⟨_, _, rfl, by omega⟩, ?_, fun b hb => hok b (List.mem_cons_of_mem _ hb)⟩
  obtain ⟨A2, c2, e, hrow⟩ := hr
  injection e with e1 e2 e3
  subst e1
  obtain ⟨ad', e', hcell⟩ := hrow (by simp)
  injection e' with e'
  subst e'
  by_cases h1 : c = 1
  · have hl : l = [] := List.length_eq_zero_iff.1 (by omega)
    subst hl
    exact ⟨_, _, rfl, fun hne => absurd rfl hne⟩
  · rw [if_neg h1]
    refine ⟨some (ad.add 2), c - 1, by rw [List.length_map], fun _ => ⟨_, rfl, fun i r j u hi hj => ?_⟩⟩
    rw [addr_add_add]
    have := hcell (i + 1) r j u (by simpa using hi) hj
    rw [show 2 + (i * 2 + j) = (i + 1) * 2 + j by omega]
    exact this
/-- States that may be found: a row of rows of texts. -/
def MayR (w : World) (Y : Nat → Prop) (v : Value) (ls : List (List (List UInt8))) : Prop :=
  ∃ us : List Value, w.ownsRow 0 42 1 v ls.length us ∧ us.length = ls.length ∧ (∀ k, v.ownBlock = some k → Y k) ∧ ∀ (i : Nat) u l, us[i]? = some u → ls[i]? = some l → ∃ b c, u = .slice (some ⟨b, 0, none⟩) 70 c ∧ 70 ≤ c ∧ l.length = 70 ∧ RowB w 9 b (l.map str) ∧ Y b
theorem own_heap {w w' : World} {t : TypeId} {s n : Nat} {v : Value} {xs : List Value} (h : w.ownsRow 0 t s v n xs) (hk : ∀ j, v.ownBlock = some j → w'.heap[j]? = w.heap[j]?) : w'.ownsRow 0 t s v n xs :=
  ⟨h.1, by
    rcases h.2 with h | ⟨g, cap, cur, rfl, hb, hg, rest⟩
    · exact .inl h
    · exact .inr ⟨g, cap, cur, rfl, hb, (hk g rfl).trans hg, rest⟩⟩
theorem MayR.keep {w w' : World} {Y : Nat → Prop} {v : Value} {ls : List (List (List UInt8))} (h : MayR w Y v ls) (hk : KeepX Y w w') : MayR w' Y v ls := by
  obtain ⟨us, h1, h2, h3, h4⟩ := h
  refine ⟨us, own_heap h1 fun j hj => hk j (h3 j hj), h2, h3, fun i u l hu hl => ?_⟩
  obtain ⟨b, c, e, h5, h6, ⟨sp, hb⟩, h7⟩ := h4 i u l hu hl
  exact ⟨b, c, e, h5, h6, ⟨sp, (hk b h7).trans hb⟩, h7⟩
theorem MayR.mono {w : World} {Y Y' : Nat → Prop} {v : Value} {ls : List (List (List UInt8))} (h : MayR w Y v ls) (hy : ∀ k, Y k → Y' k) : MayR w Y' v ls := by
  obtain ⟨us, h1, h2, h3, h4⟩ := h
  refine ⟨us, h1, h2, fun k hk => hy k (h3 k hk), fun i u l hu hl => ?_⟩
  obtain ⟨b, c, e, h5, h6, h7, h8⟩ := h4 i u l hu hl
  exact ⟨b, c, e, h5, h6, h7, hy b h8⟩
theorem MayR.shape {w : World} {Y : Nat → Prop} {v : Value} {ls : List (List (List UInt8))} (h : MayR w Y v ls) : ∃ A c, v = .slice A ls.length c := by
  obtain ⟨us, h1, _⟩ := h
  exact own_shape h1
theorem own_empty (w : World) (t : TypeId) : (w.alloc (.cells #[] t)).ownsRow 0 t 1 (.slice (some ⟨w.heap.size, 0, none⟩) 0 0) 0 [] :=
  ⟨rfl, .inr ⟨w.heap.size, 0, #[], rfl, Nat.zero_le _, Blk.new w t #[], Nat.le_refl _, by unfold maxLen; omega, rfl, rfl⟩⟩
/-- A row cloned onto a new one. -/
theorem clone_done {w w1 w9 : World} {ob : Obj} {v9 : Value} {L : List (List UInt8)} (e1 : w1 = w.alloc ob) (hown : w9.ownsRow 0 9 1 v9 (0 + (L.map str).length) ([] ++ L.map str)) (hg : w1.grownBy w9 (some w.heap.size)) (hat : v9.ownBlock = some w.heap.size ∨ v9.ownBlock = some w1.heap.size) (hl : L.length = 70) :
    ∃ b c, v9 = .slice (some ⟨b, 0, none⟩) 70 c ∧ 70 ≤ c ∧ RowB w9 9 b (L.map str) ∧ Below w.heap.size w w9 ∧ w.heap.size ≤ b ∧ b < w9.heap.size := by
  subst e1
  have hown : w9.ownsRow 0 9 1 v9 70 (L.map str) := by
    rw [Nat.zero_add, List.length_map, hl, List.nil_append] at hown
    exact hown
  obtain ⟨b, c, rfl, h1, h2⟩ := RowB.of_own hown
  refine ⟨b, c, rfl, h1, h2, ((Below.refl _ _).alloc (Nat.le_refl _) ob).grown hg (by rw [World.size_alloc]; omega) (fun j hj => by injection hj with hj; omega), ?_, h2.lt⟩
  rw [World.size_alloc] at hat
  rcases hat with e | e
  · have : b = w.heap.size := Option.some.inj e
    omega
  · have : b = w.heap.size + 1 := Option.some.inj e
    omega
theorem RG.alloc {w : World} {gr bl cl bd cd : Nat} {nv : Value} {r : Rl} (h : RG w gr bl cl bd cd nv r) (o : Obj) : RG (w.alloc o) gr bl cl bd cd nv r := h.below ((Below.refl _ _).alloc (Nat.le_refl _) o)
set_option maxRecDepth 100000 in
set_option maxHeartbeats 8000000 in
theorem Twin_calls (w : World) {gr bl cl bd cd : Nat} {nv : Value} {r : Rl} (h : RG w gr bl cl bd cd nv r) : Calls Try.prog 72 #[.pointer (some ⟨gr, 0, none⟩)] w fun e w' => ∃ gt, e = .returned (.pointer (some ⟨gt, 0, none⟩)) ∧ Below w.heap.size w w' := by
  obtain ⟨i2, hj, hy0, hy1, hy2⟩ := info_parts Try.info_str
  obtain ⟨i3, hk3, hx0, hx1, hx2⟩ := info_parts Try.info_bool
  obtain ⟨nA, nl, nc, rfl, hN, hN70⟩ : ∃ nA nl nc, nv = .slice nA nl nc ∧ Rd w (.slice nA nl nc) (r.nw.map str) ∧ nl ≤ 70 := by
    rcases h.n with ⟨rfl, e⟩ | ⟨b, c, rfl, h2, h3, hrow⟩
    · rw [e]
      exact ⟨none, 0, 0, rfl, Rd.nil _ _ _, by omega⟩
    · exact ⟨_, _, _, rfl, hrow.rd (List.length_map _) (by omega), by omega⟩
  have hnl : (r.nw.map str).length = nl := by
    obtain ⟨A, c, e, _⟩ := hN
    injection e with _ e _
    exact e.symm
  have hrl : Rd w (.slice (some ⟨bl, 0, none⟩) 70 cl) (r.L.map str) := by
    have := h.rdL
    rwa [h.ll.1] at this
  have hrd : Rd w (.slice (some ⟨bd, 0, none⟩) 70 cd) (r.D.map Value.bool) := h.d.rd (by rw [List.length_map, h.dl.1]) h.dl.2
  have hll := h.ll.1
  have hdl := h.dl.1
  have hld : (Instr.loadAt 68 (.pointer (some ⟨gr, 0, none⟩))).run Try.prog w = .ok (.agg #[.slice (some ⟨bl, 0, none⟩) 70 cl, .slice (some ⟨bd, 0, none⟩) 70 cd, .int .i64 r.pn, .bool r.op, .slice nA nl nc, .int .i64 r.wr, .int .i64 r.sy]) w :=
    run_loadAt_cells w ⟨gr, 0, none⟩ 68 (#[.slice (some ⟨bl, 0, none⟩) 70 cl, .slice (some ⟨bd, 0, none⟩) 70 cd, .int .i64 r.pn, .bool r.op, .slice nA nl nc, .int .i64 r.wr, .int .i64 r.sy]).toList _ (fun j u hj => by
      rw [addr_add_at, Nat.zero_add, h.blk.cell]
      simpa using hj) Try.underlying68 rfl (by kernel_rfl)
  obtain ⟨g2, hgz⟩ : ∃ g2, Hid (g2 = w.heap.size) := ⟨_, Lib.hid rfl⟩
  have hgg : gr ≠ g2 := by rw [hgz.out]; exact Nat.ne_of_lt h.blk.lt
  have hh := Lib.hid h
  have hrl := Lib.hid hrl
  have hrd := Lib.hid hrd
  have hN := Lib.hid hN
  have hll := Lib.hid hll
  have hdl := Lib.hid hdl
  have hnl := Lib.hid hnl
  clear h
  go_enter Try.func72, Try.ntmps72
  go_wp2_with (with_reducible refine stop_load 68 ?_)
  refine Stop.mk (wpList_load_cells rfl rfl rfl hld ?_)
  clear hld
  go_wp2_with (with_reducible refine stop_store 68 ?_)
  have hz0 : Blk (w.alloc (.cells #[.slice none 0 0, .slice none 0 0, .int .i64 0, .bool false, .slice none 0 0, .int .i64 0, .int .i64 0] 68)) w.heap.size 68 #[.slice none 0 0, .slice none 0 0, .int .i64 0, .bool false, .slice none 0 0, .int .i64 0, .int .i64 0] := Blk.new _ _ _
  refine Stop.mk (wpList_store_row rfl 68 _ _ rfl w.heap.size #[.slice (some ⟨bl, 0, none⟩) 70 cl, .slice (some ⟨bd, 0, none⟩) 70 cd, .int .i64 r.pn, .bool r.op, .slice nA nl nc, .int .i64 r.wr, .int .i64 r.sy] rfl rfl 68 #[.slice none 0 0, .slice none 0 0, .int .i64 0, .bool false, .slice none 0 0, .int .i64 0, .int .i64 0] hz0 (by kernel_rfl) rfl (by simp [Value.oneCell']) ?_)
  have hR1 : Blk (World.setRow (w.alloc (.cells #[.slice none 0 0, .slice none 0 0, .int .i64 0, .bool false, .slice none 0 0, .int .i64 0, .int .i64 0] 68)) w.heap.size #[.slice (some ⟨bl, 0, none⟩) 70 cl, .slice (some ⟨bd, 0, none⟩) 70 cd, .int .i64 r.pn, .bool r.op, .slice nA nl nc, .int .i64 r.wr, .int .i64 r.sy]) w.heap.size 68 #[.slice (some ⟨bl, 0, none⟩) 70 cl, .slice (some ⟨bd, 0, none⟩) 70 cd, .int .i64 r.pn, .bool r.op, .slice nA nl nc, .int .i64 r.wr, .int .i64 r.sy] := setRow_heap _ _ _ _ _ _ hz0
  have hB1 : Below w.heap.size w (World.setRow (w.alloc (.cells #[.slice none 0 0, .slice none 0 0, .int .i64 0, .bool false, .slice none 0 0, .int .i64 0, .int .i64 0] 68)) w.heap.size #[.slice (some ⟨bl, 0, none⟩) 70 cl, .slice (some ⟨bd, 0, none⟩) 70 cd, .int .i64 r.pn, .bool r.op, .slice nA nl nc, .int .i64 r.wr, .int .i64 r.sy]) := below_setRow ((Below.refl _ _).alloc (Nat.le_refl _) _) (Nat.le_refl _) _
  generalize World.setRow (w.alloc (.cells #[.slice none 0 0, .slice none 0 0, .int .i64 0, .bool false, .slice none 0 0, .int .i64 0, .int .i64 0] 68)) w.heap.size #[.slice (some ⟨bl, 0, none⟩) 70 cl, .slice (some ⟨bd, 0, none⟩) 70 cd, .int .i64 r.pn, .bool r.op, .slice nA nl nc, .int .i64 r.wr, .int .i64 r.sy] = w1 at *
  clear hz0
  rw [← hgz.out] at hR1 ⊢
  have hrow2 := Lib.hid (own_empty w1 9)
  have hrd2 := Lib.hid (hrl.out.below (hB1.alloc hB1.size (.cells #[] 9)))
  have q2 : w1.cell? ⟨gr, 0, none⟩ = some (.slice (some ⟨bl, 0, none⟩) 70 cl) := (hh.out.below hB1).blk.cell 0
  have q2b := ((hh.out.below hB1).alloc (.cells #[] 9)).blk.cell 0
  have n2 : gr ≠ w1.heap.size := Nat.ne_of_lt (hh.out.below hB1).blk.lt
  have m2x : g2 ≠ w1.heap.size := Nat.ne_of_lt hR1.lt
  have e2 : w1.cell? ⟨g2, 0, none⟩ = some (.slice (some ⟨bl, 0, none⟩) 70 cl) := hR1.cell 0
  go_wp2_with (at_builtin; refine stop_app rfl ?_)
  refine Stop.mk (wpList_app _ rfl rfl (us := r.L.map str) (base := 0) Try.underlying42 hj hy0 hy1 hy2 rfl hrow2.out rfl hrd2.out rfl (by intro u hu; obtain ⟨a, _, rfl⟩ := List.mem_map.1 hu; rfl) ?_ ?_ (Nat.zero_le _) ?_)
  · unfold maxLen; rw [List.length_map, hll.out]; omega
  · rw [List.length_map, hll.out]; omega
  intro v2 y2 hown2 hg2 hat2
  have hs2 := hB1.size
  have hBy2 := (hB1.alloc hs2 (.cells #[] 9)).grown hg2 (by rw [World.size_alloc]; omega) (fun j hj => by have e : w1.heap.size = j := Option.some.inj hj; omega)
  obtain ⟨A2, c2, rfl⟩ := own_shape hown2
  obtain ⟨m2, hm2⟩ : ∃ m, Hid (0 + (r.L.map str).length = m) := ⟨_, Lib.hid rfl⟩
  rw [hm2.out] at hown2 ⊢
  have hRy2 := (hR1.alloc (.cells #[] 9)).grown hg2 (by have := hR1.lt; intro e; have e2 : g2 = w1.heap.size := Option.some.inj e; omega)
  have hR2 := hRy2.set_ 0 (.slice A2 m2 c2)
  have hB2 := hBy2.setCell (p := ⟨g2, 0, none⟩) (by rw [hgz.out]; exact Nat.le_refl _) (.slice A2 m2 c2)
  have e2' : y2.cell? ⟨g2, 0, none⟩ = some (.slice (some ⟨bl, 0, none⟩) 70 cl) := hRy2.cell 0
  have f2' := hRy2.frozen 0
  obtain ⟨w2, hw2⟩ : ∃ w2, y2.setCell ⟨g2, 0, none⟩ (.slice A2 m2 c2) = w2 := ⟨_, rfl⟩
  rw [hw2] at hR2 hB2
  clear hrow2 hrd2 hown2 hg2 hat2 hBy2 hRy2 q2 q2b n2 m2x e2 hs2
  have hrow3 := Lib.hid (own_empty w2 4)
  have hrd3 := Lib.hid (hrd.out.below (hB2.alloc hB2.size (.cells #[] 4)))
  have q3 : w2.cell? ⟨gr, 1, none⟩ = some (.slice (some ⟨bd, 0, none⟩) 70 cd) := (hh.out.below hB2).blk.cell 1
  have q3b := ((hh.out.below hB2).alloc (.cells #[] 4)).blk.cell 1
  have n3 : gr ≠ w2.heap.size := Nat.ne_of_lt (hh.out.below hB2).blk.lt
  have m3x : g2 ≠ w2.heap.size := Nat.ne_of_lt hR2.lt
  have e3 : w2.cell? ⟨g2, 1, none⟩ = some (.slice (some ⟨bd, 0, none⟩) 70 cd) := hR2.cell 1
  go_wp2_with (at_builtin; refine stop_app rfl ?_)
  refine Stop.mk (wpList_app _ rfl rfl (us := r.D.map Value.bool) (base := 0) Try.underlying66 hk3 hx0 hx1 hx2 rfl hrow3.out rfl hrd3.out rfl (by intro u hu; obtain ⟨a, _, rfl⟩ := List.mem_map.1 hu; rfl) ?_ ?_ (Nat.zero_le _) ?_)
  · unfold maxLen; rw [List.length_map, hdl.out]; omega
  · rw [List.length_map, hdl.out]; omega
  intro v3 y3 hown3 hg3 hat3
  have hs3 := hB2.size
  have hBy3 := (hB2.alloc hs3 (.cells #[] 4)).grown hg3 (by rw [World.size_alloc]; omega) (fun j hj => by have e : w2.heap.size = j := Option.some.inj hj; omega)
  obtain ⟨A3, c3, rfl⟩ := own_shape hown3
  obtain ⟨m3, hm3⟩ : ∃ m, Hid (0 + (r.D.map Value.bool).length = m) := ⟨_, Lib.hid rfl⟩
  rw [hm3.out] at hown3 ⊢
  have hRy3 := (hR2.alloc (.cells #[] 4)).grown hg3 (by have := hR2.lt; intro e; have e2 : g2 = w2.heap.size := Option.some.inj e; omega)
  have hR3 := hRy3.set_ 1 (.slice A3 m3 c3)
  have hB3 := hBy3.setCell (p := ⟨g2, 1, none⟩) (by rw [hgz.out]; exact Nat.le_refl _) (.slice A3 m3 c3)
  have e3' : y3.cell? ⟨g2, 1, none⟩ = some (.slice (some ⟨bd, 0, none⟩) 70 cd) := hRy3.cell 1
  have f3' := hRy3.frozen 1
  obtain ⟨w3, hw3⟩ : ∃ w3, y3.setCell ⟨g2, 1, none⟩ (.slice A3 m3 c3) = w3 := ⟨_, rfl⟩
  rw [hw3] at hR3 hB3
  clear hrow3 hrd3 hown3 hg3 hat3 hBy3 hRy3 q3 q3b n3 m3x e3 hs3
  have hrow4 := Lib.hid (own_empty w3 9)
  have hrd4 := Lib.hid (hN.out.below (hB3.alloc hB3.size (.cells #[] 9)))
  have q4 : w3.cell? ⟨gr, 4, none⟩ = some (.slice nA nl nc) := (hh.out.below hB3).blk.cell 4
  have q4b := ((hh.out.below hB3).alloc (.cells #[] 9)).blk.cell 4
  have n4 : gr ≠ w3.heap.size := Nat.ne_of_lt (hh.out.below hB3).blk.lt
  have m4x : g2 ≠ w3.heap.size := Nat.ne_of_lt hR3.lt
  have e4 : w3.cell? ⟨g2, 4, none⟩ = some (.slice nA nl nc) := hR3.cell 4
  go_wp2_with (at_builtin; refine stop_app rfl ?_)
  refine Stop.mk (wpList_app _ rfl rfl (us := r.nw.map str) (base := 0) Try.underlying42 hj hy0 hy1 hy2 rfl hrow4.out rfl hrd4.out rfl (by intro u hu; obtain ⟨a, _, rfl⟩ := List.mem_map.1 hu; rfl) ?_ ?_ (Nat.zero_le _) ?_)
  · unfold maxLen; rw [hnl.out]; omega
  · rw [hnl.out]; omega
  intro v4 y4 hown4 hg4 hat4
  have hs4 := hB3.size
  have hBy4 := (hB3.alloc hs4 (.cells #[] 9)).grown hg4 (by rw [World.size_alloc]; omega) (fun j hj => by have e : w3.heap.size = j := Option.some.inj hj; omega)
  obtain ⟨A4, c4, rfl⟩ := own_shape hown4
  obtain ⟨m4, hm4⟩ : ∃ m, Hid (0 + (r.nw.map str).length = m) := ⟨_, Lib.hid rfl⟩
  rw [hm4.out] at hown4 ⊢
  have hRy4 := (hR3.alloc (.cells #[] 9)).grown hg4 (by have := hR3.lt; intro e; have e2 : g2 = w3.heap.size := Option.some.inj e; omega)
  have hR4 := hRy4.set_ 4 (.slice A4 m4 c4)
  have hB4 := hBy4.setCell (p := ⟨g2, 4, none⟩) (by rw [hgz.out]; exact Nat.le_refl _) (.slice A4 m4 c4)
  have e4' : y4.cell? ⟨g2, 4, none⟩ = some (.slice nA nl nc) := hRy4.cell 4
  have f4' := hRy4.frozen 4
  obtain ⟨w4, hw4⟩ : ∃ w4, y4.setCell ⟨g2, 4, none⟩ (.slice A4 m4 c4) = w4 := ⟨_, rfl⟩
  rw [hw4] at hR4 hB4
  clear hrow4 hrd4 hown4 hg4 hat4 hBy4 hRy4 q4 q4b n4 m4x e4 hs4
  go_wp2
  go_ret
  exact ⟨g2, rfl, hB4⟩
/-- w.arm: one cut less. -/
def ArmTo (U : World) (gw : Nat) (cs : List CutV) (P : World → Prop) (e : Ending) (w' : World) : Prop := e = .returned (.tuple #[]) ∧ ∃ w2 cv, P w2 ∧ w' = w2.setCell ⟨gw, 5, none⟩ cv ∧ RdC U cv cs
set_option maxRecDepth 100000 in
set_option maxHeartbeats 8000000 in
theorem arm_none (w : World) {gw : Nat} {A : Array Value} {a : Option Addr} {c : Nat} (hb : Blk w gw 75 A) (h5 : A[5]? = some (.slice a 0 c)) : Calls Try.prog 38 #[.pointer (some ⟨gw, 0, none⟩)] w fun e w' => e = .returned (.tuple #[]) ∧ w = w' := by
  have c5 : w.cell? ⟨gw, 5, none⟩ = some (.slice a 0 c) := (hb.cell 5).trans h5
  clear hb h5
  go_enter Try.func38, Try.ntmps38
  go_wp2
  go_end0
  exact ⟨rfl, rfl⟩
set_option maxRecDepth 100000 in
set_option maxHeartbeats 8000000 in
theorem arm_some (w : World) {g gw : Nat} {A : Array Value} {cv : Value} {ct : CutV} {cs : List CutV} (hb : Blk w gw 75 A) (h0 : A[0]? = some (.pointer (some ⟨g, 0, none⟩))) (h5 : A[5]? = some cv) (hc : RdC w cv (ct :: cs)) {U : World} (hcU : RdC U cv (ct :: cs)) (hl : cs.length ≤ 1000) {P : World → Prop}
    (hArm : Calls Try.prog 30 #[.pointer (some ⟨g, 0, none⟩), .int .i64 ct.n, ct.pv] w.drew fun e w' => e = .returned (.tuple #[]) ∧ P w') (hP : ∀ w', P w' → w'.heap[gw]? = w.heap[gw]? ∧ RdC w' cv (ct :: cs)) : Calls Try.prog 38 #[.pointer (some ⟨gw, 0, none⟩)] w (ArmTo U gw cs P) := by
  obtain ⟨⟨A', c', e, hc'⟩, _, _⟩ := id hc
  subst e
  obtain ⟨ad, rfl, z0, z1⟩ := hc.at_ (k := 0) (by simp)
  have hz0 : Hid (∀ W : World, RdC W (.slice (some ad) (ct :: cs).length c') (ct :: cs) → ∃ ad', some ad = some ad' ∧ W.cell? ad' = some (.int .i64 ct.n) ∧ W.cell? ⟨ad'.block, ad'.off + 1, none⟩ = some ct.pv) := Lib.hid (fun (W : World) (hB : RdC W (.slice (some ad) (ct :: cs).length c') (ct :: cs)) => by
    have := hB.at_ (k := 0) (by simp)
    simpa [addr_add0] using this)
  have hd := Lib.hid (RdC.drop (n := cs.length) hcU)
  have hlen : (ct :: cs).length = cs.length + 1 := rfl
  rw [hlen] at h5 hc'
  obtain ⟨n, hn⟩ : ∃ n, Hid (cs.length = n) := ⟨_, Lib.hid rfl⟩
  rw [hn.out] at h5 hc' hd hl
  have c0 : w.cell? ⟨gw, 0, none⟩ = some (.pointer (some ⟨g, 0, none⟩)) := (hb.cell 0).trans h0
  have c5 : w.cell? ⟨gw, 5, none⟩ = some (.slice (some ad) (n + 1) c') := (hb.cell 5).trans h5
  have hbh := Lib.hid hb
  have hAh := Lib.hid hArm
  have hPh := Lib.hid hP
  have h0h := Lib.hid h0
  have h5h := Lib.hid h5
  have hch := Lib.hid hc
  clear hb hArm hP z0 z1 hc h0 h5 hcU
  have hpos : (0 : Int) < ((n + 1 : Nat) : Int) := by omega
  go_enter Try.func38, Try.ntmps38
  go_wp2_with fail
  refine wp_mixs (fun W => W.heap[gw]? = w.heap[gw]? ∧ RdC W (.slice (some ad) (ct :: cs).length c') (ct :: cs)) [18] (by kernel_rfl) (by kernel_rfl) (by kernel_rfl) (by decide) (show _ ∧ _ from ⟨rfl, hch.out.below (Below.refl _ _).drew⟩) ?_
  iterate 18 ((first | refine mixsq rfl rfl 0 (by decide +kernel) ?_ (fun w' hw' => Or.inl ?_) (fun K hK => ?_) | refine mixsq rfl rfl 1 (by decide +kernel) ?_ (fun w' hw' => Or.inl ?_) (fun K hK => ?_) | refine mixsq rfl rfl 2 (by decide +kernel) ?_ (fun w' hw' => Or.inl ?_) (fun K hK => ?_) | refine mixsq rfl rfl 3 (by decide +kernel) ?_ (fun w' hw' => Or.inl ?_) (fun K hK => ?_) | refine mixsq rfl rfl 4 (by decide +kernel) ?_ (fun w' hw' => Or.inl ?_) (fun K hK => ?_) | refine mixsq rfl rfl 5 (by decide +kernel) ?_ (fun w' hw' => Or.inl ?_) (fun K hK => ?_) | refine mixsq rfl rfl 6 (by decide +kernel) ?_ (fun w' hw' => Or.inl ?_) (fun K hK => ?_) | refine mixsq rfl rfl 7 (by decide +kernel) ?_ (fun w' hw' => Or.inl ?_) (fun K hK => ?_)); rotate_left; (focus (have hb : w'.heap[gw]? = w.heap[gw]? ∧ RdC w' (.slice (some ad) (ct :: cs).length c') (ct :: cs) := hw'; have hk : Blk w' gw _ A := hb.1.trans hbh.out; have e0 : w'.cell? ⟨gw, 0, none⟩ = some (.pointer (some ⟨g, 0, none⟩)) := (hk.cell 0).trans h0h.out; have e5 : w'.cell? ⟨gw, 5, none⟩ = some (.slice (some ad) (n + 1) c') := (hk.cell 5).trans h5h.out; obtain ⟨ad2, ea, z0, z1⟩ := hz0.out w' hb.2; injection ea with ea; subst ea; go_simp; rfl)); go_simp; refine hK _ ?_; clear hK K)
  refine mixsl rfl rfl (fun K hK => ?_)
  go_simp
  refine hAh.out.mono ?_
  rintro e w2 ⟨rfl, hp⟩
  have hb2 : Blk w2 gw 75 A := (hPh.out w2 hp).1.trans hbh.out
  refine hK (fun _ => True) _ _ (fun _ => ⟨trivial, fun _ => hPh.out w2 hp⟩) ?_
  clear hK K
  refine mixs_nil ?_
  have c5' : w2.cell? ⟨gw, 5, none⟩ = some (.slice (some ad) (n + 1) c') := (hb2.cell 5).trans h5h.out
  have f5' := hb2.frozen 5
  clear hAh hz0 hb2
  by_cases h1 : c' = 1
  · subst h1
    rw [if_pos rfl] at hd
    obtain rfl : n = 0 := by omega
    have hfin : Hid (ArmTo U gw cs P (.returned (.tuple #[])) (w2.setCell ⟨gw, 5, none⟩ (.slice (some ad) 0 0))) := Lib.hid ⟨rfl, w2, _, hp, rfl, hd.out⟩
    go_wp2
    go_end0
    exact hfin.out
  · have hfin : Hid (ArmTo U gw cs P (.returned (.tuple #[])) (w2.setCell ⟨gw, 5, none⟩ (.slice (some (ad.add 2)) n (c' - 1)))) := by
      rw [if_neg h1] at hd
      exact Lib.hid ⟨rfl, w2, _, hp, rfl, hd.out⟩
    go_wp2
    go_end0
    exact hfin.out
end Go.Proofs.Ytlfbfmeppcicnaa
namespace Go.Proofs.Ytlfbfmeppcicnaa
open Go.RowKit
structure WM (W0 w : World) (g gw gl gr bl cl bd cd : Nat) (x : Lk) (ot : Option (Nat × Tk)) (nv : Value) (r : Rl) (mv cv : Value) (ls : List (List (List UInt8))) (cs : List CutV) (Y : Nat → Prop) : Prop where
  pm : PM W0 w gl g x ot gr bl cl bd cd nv r (fun k => k = gw ∨ Y k)
  blk : Blk w gw 75 #[.pointer (some ⟨g, 0, none⟩), .pointer (some ⟨gl, 0, none⟩), tptr ot, .pointer (some ⟨gr, 0, none⟩), mv, cv]
  may : MayR w Y mv ls
  cuts : RdC W0 cv cs
  hw : W0.heap.size ≤ gw ∧ ¬ Y gw ∧ ∀ k, Y k → W0.heap.size ≤ k
/-- The world with the disk alone. -/
structure WD (W0 w : World) (g gw : Nat) (d : Dk) (c1 c2 c3 mv cv : Value) (ls : List (List (List UInt8))) (cs : List CutV) (Y : Nat → Prop) : Prop where
  dg : DG W0 w g 135 d (fun k => k = gw ∨ Y k)
  blk : Blk w gw 75 #[.pointer (some ⟨g, 0, none⟩), c1, c2, c3, mv, cv]
  may : MayR w Y mv ls
  cuts : RdC W0 cv cs
  hw : W0.heap.size ≤ gw ∧ ¬ Y gw ∧ ∀ k, Y k → W0.heap.size ≤ k
section
variable {W0 w w' : World} {g gw gl gr bl cl bd cd : Nat} {x x' : Lk} {ot ot' : Option (Nat × Tk)} {nv nv' : Value} {r r' : Rl} {mv cv c1 c2 c3 : Value} {ls : List (List (List UInt8))} {cs : List CutV} {Y : Nat → Prop} {d d' : Dk}
theorem WM.below (h : WM W0 w g gw gl gr bl cl bd cd x ot nv r mv cv ls cs Y) (hb : Below w.heap.size w w') : WM W0 w' g gw gl gr bl cl bd cd x ot nv r mv cv ls cs Y :=
  ⟨h.pm.below hb, (hb.block _ h.blk.lt).trans h.blk, h.may.keep (fun k hk => hb.block k (h.pm.xl k (.inr hk))), h.cuts, h.hw⟩
theorem WD.below (h : WD W0 w g gw d c1 c2 c3 mv cv ls cs Y) (hb : Below w.heap.size w w') : WD W0 w' g gw d c1 c2 c3 mv cv ls cs Y :=
  ⟨h.dg.below hb, (hb.block _ h.blk.lt).trans h.blk, h.may.keep (fun k hk => hb.block k (h.dg.xl k (.inr hk))), h.cuts, h.hw⟩
theorem WD.step (h : WD W0 w g gw d c1 c2 c3 mv cv ls cs Y) (hd : DG W0 w' g 135 d' (fun k => k = gw ∨ Y k)) (hk : KeepX (fun k => k = gw ∨ Y k) w w') : WD W0 w' g gw d' c1 c2 c3 mv cv ls cs Y :=
  ⟨hd, hk.blk h.blk (.inl rfl), h.may.keep (fun k hy => hk k (.inr hy)), h.cuts, h.hw⟩
theorem PM.dg (h : PM W0 w gl g x ot gr bl cl bd cd nv r Y) (hl : x.d.l.length = 135) : DG W0 w g 135 x.d Y := by
  obtain ⟨S, F, ST, FT, h1, h2, h3, h4, h5⟩ := h.ex
  obtain ⟨Sd, h6, h7⟩ := h1.disk
  exact ⟨⟨Sd, F, h6, fun k hk => ⟨(h5 k (.inl (h7 k hk))).1, (h5 k (.inl (h7 k hk))).2.1⟩⟩, hl, h.bel, h.xl⟩
theorem WM.wd (h : WM W0 w g gw gl gr bl cl bd cd x ot nv r mv cv ls cs Y) (hl : x.d.l.length = 135) : WD W0 w g gw x.d (.pointer (some ⟨gl, 0, none⟩)) (tptr ot) (.pointer (some ⟨gr, 0, none⟩)) mv cv ls cs Y :=
  ⟨h.pm.dg hl, h.blk, h.may, h.cuts, h.hw⟩
theorem pOff (h : PM W0 w gl g x ot gr bl cl bd cd nv r Y) : Calls Try.prog 32 #[.pointer (some ⟨g, 0, none⟩)] w (Ans w (.bool x.d.off)) := by
  obtain ⟨S, F, ST, FT, h1, h2, h3, h4, h5⟩ := h.ex
  obtain ⟨Sd, h6, h7⟩ := h1.disk
  exact Off_callsO w g x.d Sd h6
end
/-- What act leaves. -/
def ActTo (W0 w : World) (g gw gl gr bl cl bd cd : Nat) (mv cv : Value) (ls : List (List (List UInt8))) (cs : List CutV) (Y : Nat → Prop) (x : Lk) (r : Rl) (V : Nat → List UInt8) (M : Nat) (e : Ending) (w' : World) : Prop :=
  ∃ b x' ot' nv' r', e = .returned (.bool (b || x'.d.off)) ∧ WM W0 w' g gw gl gr bl cl bd cd x' ot' nv' r' mv cv ls cs Y ∧ SP x r V M b x' (ot'.map Prod.snd) r' ∧ KeepX Y w w'
set_option maxRecDepth 100000 in
set_option maxHeartbeats 8000000 in
theorem act_calls {W0 w : World} {g gw gl gr bl cl bd cd : Nat} {x : Lk} {ot : Option (Nat × Tk)} {nv : Value} {r : Rl} {mv cv : Value} {ls : List (List (List UInt8))} {cs : List CutV} {Y : Nat → Prop} {V : Nat → List UInt8} {M : Nat} (h : WM W0 w g gw gl gr bl cl bd cd x ot nv r mv cv ls cs Y) (hp : PA x V) (ht : Tie x V (ot.map Prod.snd) r) (hf : Fit 135 M x.d) (hM : M ≤ 700000000) (hpn : 0 ≤ x.pn ∧ x.pn ≤ 1000000) (hsy : 0 ≤ r.sy ∧ r.sy ≤ 1000000) (a : ActV) (ha : a.ok W0) (hb : a.b.length ≤ 64) :
    Calls Try.prog 73 #[.pointer (some ⟨gw, 0, none⟩), .agg a.row.toArray] w (ActTo W0 w g gw gl gr bl cl bd cd mv cv ls cs Y x r V M) := by
  obtain ⟨w1, hw1⟩ : ∃ w1, w.alloc (.cells a.row.toArray 65) = w1 := ⟨_, rfl⟩
  have hB1 : Below w.heap.size w w1 := by rw [← hw1]; exact (Below.refl _ _).alloc (Nat.le_refl _) _
  have hk1 : Blk w1 w.heap.size 65 a.row.toArray := by rw [← hw1]; exact Blk.new _ _ _
  have h1 := Lib.hid ((h.below hB1).below (Below.refl _ w1).drew)
  have hpq : Hid (PM W0 w1.drew gl g x ot gr bl cl bd cd nv r (fun k => (k = gw ∨ Y k) ∨ k = w.heap.size)) := by
    rw [← hw1]
    exact Lib.hid ((h.pm.own (Z := fun _ => False) (Y := fun k => (k = gw ∨ Y k) ∨ k = w.heap.size) ((Chg.refl _ w).alloc _) (fun _ h => h.elim) (fun _ _ _ h => h) (fun _ _ _ h => h) (fun k hk => hk.imp id fun e => by subst e; exact ⟨Nat.le_refl _, by rw [World.size_alloc]; omega⟩)).below (Below.refl _ _).drew)
  have hld : Hid (∀ W, Blk W w.heap.size 65 a.row.toArray → (Instr.loadAt 65 (.pointer (some ⟨w.heap.size, 0, none⟩))).run Try.prog W = .ok (.agg a.row.toArray) W) := Lib.hid fun W hk => run_loadAt_cells W _ 65 a.row _ (fun j u hu => by
    rw [addr_add_at, Nat.zero_add, hk.cell]
    simpa using hu) Try.underlying65 rfl (by kernel_rfl)
  have hst : Hid (Calls Try.prog 37 #[.pointer (some ⟨gw, 1, none⟩), .agg a.row.toArray] w1.drew (SO W0 w1.drew gl g gr bl cl bd cd gw 1 75 #[.pointer (some ⟨g, 0, none⟩), .pointer (some ⟨gl, 0, none⟩), tptr ot, .pointer (some ⟨gr, 0, none⟩), mv, cv] (fun k => (k = gw ∨ Y k) ∨ k = w.heap.size) x r V M)) := by
    obtain ⟨op, n, bv, b⟩ := a
    obtain ⟨a1, a2, a3, a4⟩ := ha
    simp only at a1 a2 a3 a4 hb
    obtain ⟨bA, bc, rfl⟩ := a1.shape8
    exact Lib.hid (step_calls (M := M) hpq.out h1.out.blk rfl rfl rfl (.inl (.inl rfl)) h1.out.hw.1 ⟨by decide, by decide⟩ hp ht hf hM hpn hsy n (wf64K a4) bA bc b a1 hb op)
  have hYlt : Hid (∀ k, Y k → k < w.heap.size) := fun k hk => h.pm.xl k (.inr hk)
  have hqk := Lib.hid hk1
  have hBh := Lib.hid hB1
  have hlt := h.blk.lt
  have hqne : Hid (w.heap.size ≠ gw) := Lib.hid (by omega)
  have hmay := Lib.hid h.may
  obtain ⟨A, hA⟩ : ∃ A, Hid (a.row.toArray = A) := ⟨_, Lib.hid rfl⟩
  rw [hA.out] at hst hld hqk hw1 ⊢
  clear h hB1 hk1 hp ht hf hM hpn hsy ha hb
  go_enter Try.func73, Try.ntmps73
  go_wp2_with fail
  refine wp_mixs (fun W => Blk W w.heap.size 65 A) [4] (by kernel_rfl) (by kernel_rfl) (by kernel_rfl) (by decide) (show Blk w1.drew _ _ _ from hqk.out) ?_
  iterate 3 ((first | refine mixsq rfl rfl 0 (by decide +kernel) ?_ (fun w' hw' => Or.inl ?_) (fun K hK => ?_) | refine mixsq rfl rfl 1 (by decide +kernel) ?_ (fun w' hw' => Or.inl ?_) (fun K hK => ?_) | refine mixsq rfl rfl 2 (by decide +kernel) ?_ (fun w' hw' => Or.inl ?_) (fun K hK => ?_) | refine mixsq rfl rfl 3 (by decide +kernel) ?_ (fun w' hw' => Or.inl ?_) (fun K hK => ?_) | refine mixsq rfl rfl 4 (by decide +kernel) ?_ (fun w' hw' => Or.inl ?_) (fun K hK => ?_) | refine mixsq rfl rfl 5 (by decide +kernel) ?_ (fun w' hw' => Or.inl ?_) (fun K hK => ?_) | refine mixsq rfl rfl 6 (by decide +kernel) ?_ (fun w' hw' => Or.inl ?_) (fun K hK => ?_) | refine mixsq rfl rfl 7 (by decide +kernel) ?_ (fun w' hw' => Or.inl ?_) (fun K hK => ?_)); rotate_left; (focus (go_simp; rfl)); go_simp; refine hK _ ?_; clear hK K)
  refine mixsq rfl rfl 0 (by decide +kernel) (.agg A) (fun w' hw' => Or.inl (exec_load rfl rfl (hld.out w' hw'))) (fun K hK => ?_)
  go_simp
  refine hK _ ?_
  clear hK K
  refine mixsl rfl rfl (fun K hK => ?_)
  go_simp
  refine hst.out.mono ?_
  rintro e w2 ⟨b, x', ot', nv', r', rfl, h2, h3, h4, h5⟩
  have hq2 : Blk w2 w.heap.size 65 A := (h4 _ ⟨.inr rfl, hqne.out⟩).trans hqk.out
  refine hK (fun W => Blk W w.heap.size 65 A) _ _ (fun _ => ⟨hq2, fun _ => hq2⟩) ?_
  clear hK K
  (first | refine mixsq rfl rfl 0 (by decide +kernel) ?_ (fun w' hw' => Or.inl ?_) (fun K hK => ?_) | refine mixsq rfl rfl 1 (by decide +kernel) ?_ (fun w' hw' => Or.inl ?_) (fun K hK => ?_) | refine mixsq rfl rfl 2 (by decide +kernel) ?_ (fun w' hw' => Or.inl ?_) (fun K hK => ?_) | refine mixsq rfl rfl 3 (by decide +kernel) ?_ (fun w' hw' => Or.inl ?_) (fun K hK => ?_) | refine mixsq rfl rfl 4 (by decide +kernel) ?_ (fun w' hw' => Or.inl ?_) (fun K hK => ?_) | refine mixsq rfl rfl 5 (by decide +kernel) ?_ (fun w' hw' => Or.inl ?_) (fun K hK => ?_) | refine mixsq rfl rfl 6 (by decide +kernel) ?_ (fun w' hw' => Or.inl ?_) (fun K hK => ?_) | refine mixsq rfl rfl 7 (by decide +kernel) ?_ (fun w' hw' => Or.inl ?_) (fun K hK => ?_)); rotate_left; (focus (go_simp; rfl)); go_simp; refine hK _ ?_; clear hK K
  refine mixs_nil ?_
  have hkY : KeepX Y w w2 := fun k hk => by
    have hne : k ≠ gw := fun e => h1.out.hw.2.1 (e ▸ hk)
    exact (h4 k ⟨.inl (.inr hk), hne⟩).trans (hBh.out.block k (hYlt.out k hk))
  have hWM : WM W0 w2 g gw gl gr bl cl bd cd x' ot' nv' r' mv cv ls cs Y := ⟨h2.less (fun k hk => .inl hk), h3, hmay.out.keep hkY, h1.out.cuts, h1.out.hw⟩
  have hOf := Lib.hid (pOff h2)
  have c0 : w2.cell? ⟨gw, 0, none⟩ = some (.pointer (some ⟨g, 0, none⟩)) := hWM.blk.cell 0
  have hfin : Hid (ActTo W0 w g gw gl gr bl cl bd cd mv cv ls cs Y x r V M (.returned (.bool (b || x'.d.off))) w2) := Lib.hid ⟨b, x', ot', nv', r', rfl, hWM, h5, hkY⟩
  clear h1 hpq hst hld hqk hq2 h2 h3 h4 h5 hkY hWM hBh
  cases b with
  | true =>
    rw [Bool.true_or] at hfin
    go_wp2
    go_ret
    exact hfin.out
  | false =>
    rw [Bool.false_or] at hfin
    go_wp2_with fail
    refine hOf.out.mono ?_
    rintro e w3 ⟨rfl, rfl⟩
    go_wp2
    go_ret
    exact hfin.out
end Go.Proofs.Ytlfbfmeppcicnaa
namespace Go.Proofs.Ytlfbfmeppcicnaa
open Go.RowKit
section
variable {W0 w w' : World} {g gw gl gr bl cl bd cd : Nat} {x x' : Lk} {ot ot' : Option (Nat × Tk)} {nv nv' : Value} {r r' : Rl} {mv cv c1 c2 c3 : Value} {ls : List (List (List UInt8))} {cs : List CutV} {X Y : Nat → Prop} {d d' : Dk} {V D L : Nat → List UInt8} {M : Nat}
theorem DG.own (h : DG W0 w g 135 d X) {Z Y : Nat → Prop} (hc : Chg Z w w') (hZ : ∀ k, Z k → X k ∧ W0.heap.size ≤ k) (h8 : ∀ k cs, Blk w k 5 cs → ¬ Z k) (hi : ∀ k cs, Blk w k 3 cs → ¬ Z k) (hY : ∀ k, Y k → X k ∨ (w.heap.size ≤ k ∧ k < w'.heap.size)) : DG W0 w' g 135 d Y := by
  obtain ⟨S, F, h1, h2⟩ := h.ex
  refine ⟨⟨S, F, h1.chgT hc (fun k hk hz => (h2 k hk).2 (hZ k hz).1) h8 hi, fun k hk => ⟨(h2 k hk).1, fun hy => ?_⟩⟩, h.dl, below_chg h.bel hc (fun k hk => (hZ k hk).2), fun k hk => ?_⟩
  · rcases hY k hy with e | ⟨e, _⟩
    · exact (h2 k hk).2 e
    · have := h1.lt hk
      omega
  · rcases hY k hk with e | ⟨_, e⟩
    · exact Nat.lt_of_lt_of_le (h.xl k e) hc.size
    · exact e
theorem LG.below (h : LG W0 w gl g 135 x X) (hb : Below w.heap.size w w') : LG W0 w' gl g 135 x X := by
  obtain ⟨S, F, h1, h2⟩ := h.ex
  exact ⟨⟨S, F, h1.below hb, h2⟩, h.dl, h.bel.trans (hb.mono h.bel.size), fun k hk => Nat.lt_of_lt_of_le (h.xl k hk) hb.size⟩
theorem Vw.fit0 (h : Vw 135 0 d V) : Fit 135 0 d := h.fit
theorem Fit.arm (h : Fit 135 M d) (n : Int) (p : List Int) (hn : n ≤ 9223372036854775807) (hp : p.length ≤ 1000000000) : Fit 135 M (armD d n p) := ⟨h.dl, h.wl, h.wt, hp, by show imax n 0 ≤ _; unfold imax; omega⟩
/-- w.arm over a disk alone. -/
def ArmD (W0 : World) (g gw : Nat) (c1 c2 c3 mv : Value) (ls : List (List (List UInt8))) (cs : List CutV) (Y : Nat → Prop) (L : Nat → List UInt8) (e : Ending) (w' : World) : Prop :=
  e = .returned (.tuple #[]) ∧ ∃ d2 cv2 cs2, WD W0 w' g gw d2 c1 c2 c3 mv cv2 ls cs2 Y ∧ Pq 135 L (fun k b => b = L k) d2 ∧ Fit 135 0 d2 ∧ (∀ c ∈ cs2, c ∈ cs) ∧ ((cs = [] ∧ cs2 = [] ∧ Vw 135 0 d2 L ∧ Stl d2) ∨ cs.length = cs2.length + 1)
theorem armD_calls (h : WD W0 w g gw d c1 c2 c3 mv cv ls cs Y) (hv : Vw 135 0 d L) (hs : Stl d) (hl : cs.length ≤ 1000) (hp : ∀ c ∈ cs, c.p.length ≤ 1000) : Calls Try.prog 38 #[.pointer (some ⟨gw, 0, none⟩)] w (ArmD W0 g gw c1 c2 c3 mv ls cs Y L) := by
  rcases cs with _ | ⟨ct, cs⟩
  · obtain ⟨⟨A, c, e, _⟩, _, _⟩ := h.cuts
    have e : cv = .slice A 0 c := e
    subst e
    refine (arm_none w h.blk rfl).mono ?_
    rintro e w' ⟨rfl, rfl⟩
    exact ⟨rfl, d, _, [], h, Pq.of_vw hv hs, hv.fit0, fun _ h => h, .inl ⟨rfl, rfl, hv, hs⟩⟩
  · have hok := (h.cuts.2.2 ct (List.mem_cons_self)).below h.dg.bel
    have hcw := h.cuts.below h.dg.bel
    have hd1 : DG W0 w.drew g 135 d (fun k => k = gw ∨ Y k) := h.dg.below (Below.refl _ _).drew
    refine (arm_some w (g := g) (cv := cv) (ct := ct) (cs := cs) (P := fun w' => DG W0 w' g 135 (armD d ct.n ct.p) (fun k => k = gw ∨ Y k) ∧ KeepX (fun k => k = gw ∨ Y k) w w') h.blk rfl rfl hcw h.cuts (by simp at hl; omega) ?_ ?_).mono ?_
    · refine (gArmD hd1 ct.n ct.pv ct.p (hok.1.below (Below.refl _ _).drew) (by have := hp ct (List.mem_cons_self); omega)).mono ?_
      rintro e w2 ⟨rfl, g1, g2⟩
      exact ⟨rfl, g1, g2⟩
    · rintro w2 ⟨g1, g2⟩
      exact ⟨g2 gw (.inl rfl), h.cuts.below g1.bel⟩
    · rintro e w' ⟨rfl, w2, cv2, ⟨g1, g2⟩, rfl, hc2⟩
      have hb2 := g2.blk h.blk (.inl rfl)
      have hch : Chg (fun k => k = gw) w2 (w2.setCell ⟨gw, 5, none⟩ cv2) := chg_set ⟨gw, 5, none⟩ _
      refine ⟨rfl, armD d ct.n ct.p, cv2, cs, ⟨g1.own hch (fun k hk => ⟨.inl hk, hk ▸ h.hw.1⟩) (fun k cs hb hk => by subst hk; exact absurd rfl (hb.ne_ hb2 (by decide))) (fun k cs hb hk => by subst hk; exact absurd rfl (hb.ne_ hb2 (by decide))) (fun k hk => .inl hk), hb2.set_ 5 _, (h.may.keep (fun k hk => g2 k (.inr hk))).keep (fun k hk => ?_), hc2, h.hw⟩, (Pq.of_vw hv hs).arm _ _, hv.fit0.arm _ _ (wf64K hok.2.2).2 (by have := hp ct (List.mem_cons_self); omega), fun c hc => List.mem_cons_of_mem _ hc, .inr rfl⟩
      exact Below.heap_setCell w2 ⟨gw, 5, none⟩ cv2 k (fun e => h.hw.2.1 (by have e : k = gw := e; exact e ▸ hk))
/-- Open over a disk alone. -/
def OpenD (W0 w : World) (g : Nat) (d : Dk) (X : Nat → Prop) (e : Ending) (w' : World) : Prop :=
  ((openP d).1 ≠ 0 ∧ e = .returned (.tuple #[.pointer none, .int .i64 (openP d).1]) ∧ DG W0 w' g 135 (openP d).2 X ∧ KeepX X w w') ∨
  ((openP d).1 = 0 ∧ ∃ gl, e = .returned (.tuple #[.pointer (some ⟨gl, 0, none⟩), .int .i64 0]) ∧ LG W0 w' gl g 135 (freshK (openP d).2) X ∧ KeepX X w w')
theorem openD_calls (h : DG W0 w g 135 d X) (hf : Fit 135 M d) (hM : M ≤ 700000000) : Calls Try.prog 14 #[.pointer (some ⟨g, 0, none⟩)] w (OpenD W0 w g d X) := by
  obtain ⟨S, F, h1, h2⟩ := h.ex
  refine (Open_calls w h1 hf (by omega) (by omega)).mono ?_
  rintro e w' (⟨h0, rfl, hw⟩ | ⟨h0, gl, rfl, _, S', F', g1, g2, g3, g4⟩)
  · obtain ⟨a, b⟩ := h.wrote h2 hw hf.openP.dl
    exact .inl ⟨h0, rfl, a, b⟩
  · refine .inr ⟨h0, gl, rfl, ⟨⟨S', F', g1, fun k hk => ?_⟩, hf.openP.dl, below_chg h.bel g2 (fun k hk => (h2 k hk).1), fun k hk => Nat.lt_of_lt_of_le (h.xl k hk) g2.size⟩, KeepX.of_chg g2 (fun k hk => ⟨h.xl k hk, fun hs => (h2 k hs).2 hk⟩)⟩
    rcases g3 k hk with h5 | h5
    · exact h2 k h5
    · exact ⟨Nat.le_trans h.bel.size h5, fun hx => by have := h.xl k hx; omega⟩
theorem RdOut.other {er : Int} {b b' : List UInt8} {e : Ending} (h : RdOut w er b e w') (h0 : er ≠ 0) : RdOut w er b' e w' := by
  rcases h with ⟨h1, _⟩ | h1
  · exact absurd h1 h0
  · exact .inr h1
theorem LG.rl (h : LG W0 w gl g 135 (freshK d) X) (hp : PA (freshK d) V) (hh : HomeOk 135 V D) (hf : Fit 135 M d) (hM : M ≤ 700000000) : ∀ W, Below w.heap.size w W → RL gl 70 D W := fun W hb => by
  have h' := h.below hb
  obtain ⟨S, F, h1, h2⟩ := h'.ex
  refine ⟨fun n => ?_, ?_⟩
  · have hR := LRead_calls W h1 hf (by omega) (by omega) n
    rw [hp.readE] at hR
    refine hR.mono fun e w2 hr => ?_
    by_cases hin : 0 ≤ n ∧ n < 70
    · rw [if_pos hin] at hr
      rw [if_neg (by omega)]
      have e1 : lvalP (freshK d) n.toNat = D n.toNat := by
        rw [hp.val (by omega)]
        exact hh.2 _ (by omega)
      rw [← e1]
      exact hr
    · rw [if_neg hin] at hr
      rw [if_pos (by omega)]
      exact hr.other (by decide)
  · have := LBlocks_calls W h1 (by rw [h.dl]; omega)
    rw [h.dl] at this
    exact this
theorem PM.makeG (h : LG W0 w gl g 135 x X) (hb : Below w.heap.size w w') (hr : RG w' gr bl cl bd cd (.slice none 0 0) r) (h1 : w.heap.size ≤ gr) (h2 : w.heap.size ≤ bl) (h3 : w.heap.size ≤ bd) : PM W0 w' gl g x none gr bl cl bd cd (.slice none 0 0) r X := by
  obtain ⟨S, F, g1, g2⟩ := h.ex
  have hs : ∀ k, rgS gr bl bd (.slice none 0 0) k → w.heap.size ≤ k := fun k hk => by
    rcases hk with rfl | rfl | rfl | hk
    · exact h1
    · exact h2
    · exact h3
    · simp [Value.ownBlock] at hk
  exact ⟨⟨S, F, fun _ => False, fun _ => False, g1.below hb, fun p hp => (by cases hp), fun _ _ h => h, fun _ h => h.elim, fun k hk => hk.elim (fun hk => ⟨(g2 k hk).1, (g2 k hk).2, fun hr => by have := hs k hr; have := g1.lt hk; omega⟩) False.elim⟩, hr, fun k hk => ⟨Nat.le_trans h.bel.size (hs k hk), fun hx => by have := hs k hk; have := h.xl k hx; omega⟩, h.bel.trans (hb.mono h.bel.size), fun k hk => Nat.lt_of_lt_of_le (h.xl k hk) hb.size⟩
/-- The blocks of a new row. -/
theorem RG.newL (h : RG w gr bl cl bd cd (.slice none 0 0) r) {b c : Nat} {us : List (List UInt8)} (hb : RowB w 9 b (us.map str)) (hc : 70 ≤ c) (hl : us.length = 70) (hn : r.nw = []) : RG (w.setCell ⟨gr, 0, none⟩ (.slice (some ⟨b, 0, none⟩) 70 c)) gr b c bd cd (.slice none 0 0) { r with L := us } := by
  have hch : Chg (fun k => k = gr) w (w.setCell ⟨gr, 0, none⟩ (.slice (some ⟨b, 0, none⟩) 70 c)) := chg_set ⟨gr, 0, none⟩ _
  exact ⟨h.blk.set_ 0 _, hb.chg hch (hb.neB h.blk (by decide)), h.d.chg hch (h.d.neB h.blk (by decide)), ⟨hl, hc⟩, h.dl, .inl ⟨rfl, hn⟩, by simp [Value.ownBlock]⟩
end
end Go.Proofs.Ytlfbfmeppcicnaa
