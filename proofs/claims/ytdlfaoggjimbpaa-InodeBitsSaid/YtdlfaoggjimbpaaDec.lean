/- Bytes as a node. -/
import Derived.Test.YtdlfaoggjimbpaaEnc
import Derived.Test.YtdlfaoggjimbpaaRdsW
import Derived.Laws.CopyOwn
namespace Go.Proofs.Ytdlfaoggjimbpaa
open Go.RowKit
theorem takeP_ok (rs : List UInt8) (m : Nat) (h : m ≤ rs.length) : takeP rs 0 (m : Int) = (rs.take m, rs.drop m, 0) := by
  unfold takeP
  rw [if_neg (by decide), if_neg (by omega), if_neg (by omega), Int.toNat_natCast]
def zeroNd : Nd := ⟨0, 0, 0, 0, 0, 0, 0, 0, 0, 0, 0, 0, 0⟩
/-- m bytes at k as a number. -/
def numA (b : List UInt8) (k m : Nat) : Nat := numP ((b.drop k).take m)
theorem numA_lt (b : List UInt8) (k m : Nat) (h : m ≤ 4) : numA b k m ≤ 4294967295 := by
  have h1 := numP_lt ((b.drop k).take m)
  have h2 : (256 : Nat) ^ ((b.drop k).take m).length ≤ 4294967296 := Nat.le_trans (Nat.pow_le_pow_right (by omega) (show ((b.drop k).take m).length ≤ 4 by rw [List.length_take]; omega)) (by decide)
  unfold numA
  omega
def rdN (b : List UInt8) : Nd := ⟨numA b 0 1, numA b 2 2, numA b 4 4, numA b 8 4, numA b 12 4, numA b 16 4, numA b 20 4, numA b 24 4, numA b 28 4, numA b 32 4, numA b 36 4, numA b 40 4, numA b 44 4⟩
/-- What is there when so many of the rooms are filled. -/
def partC (b : List UInt8) (k : Nat) : Array Value := #[.int .i64 (numA b 0 1), .int .i64 (if 0 < k then numA b 2 2 else 0), .int .i64 (if 0 < k then numA b 4 4 else 0), .int .i64 (if 1 < k then numA b 8 4 else 0), .int .i64 (if 2 < k then numA b 12 4 else 0), .int .i64 (if 3 < k then numA b 16 4 else 0), .int .i64 (if 4 < k then numA b 20 4 else 0), .int .i64 (if 5 < k then numA b 24 4 else 0), .int .i64 (if 6 < k then numA b 28 4 else 0), .int .i64 (if 7 < k then numA b 32 4 else 0), .int .i64 (if 8 < k then numA b 36 4 else 0), .int .i64 0, .int .i64 0]
structure DSt (w0 W : World) (g R P : Nat) (b : Value) (rs : List UInt8) (cs : Array Value) : Prop where
  rd : Rdr W g b rs 0
  rb : Blk W R 65 zeroNd.cells
  pb : Blk W P 65 cs
  gR : g ≠ R
  gP : g ≠ P
  rp : R ≠ P
  bR : b.ownBlock ≠ some R
  bP : b.ownBlock ≠ some P
  below : Below w0.heap.size w0 W
  gw : w0.heap.size ≤ g
  rw : w0.heap.size ≤ R
  pw : w0.heap.size ≤ P
theorem DSt.read {w0 W W' : World} {g R P : Nat} {b : Value} {rs : List UInt8} {cs : Array Value} {m : Nat} {e : Ending} (h : DSt w0 W g R P b rs cs) (hm : m ≤ rs.length) (k : NumOut W g b (takeP rs 0 (m : Int)) e W') :
    e = .returned (.int .i64 (numP (rs.take m) : Nat)) ∧ ∃ b', DSt w0 W' g R P b' (rs.drop m) cs := by
  rw [takeP_ok rs m hm] at k
  obtain ⟨b', rfl, h1, h2, h3⟩ := k
  exact ⟨rfl, b', h1, h.rb.chg h2 (fun e => h.gR e.symm), h.pb.chg h2 (fun e => h.gP e.symm), h.gR, h.gP, h.rp, by rw [h3]; exact h.bR, by rw [h3]; exact h.bP, h.below.trans (h2.below h.below.size (fun k hk => by rw [hk]; exact h.gw)), h.gw, h.rw, h.pw⟩
theorem DSt.put {w0 W : World} {g R P : Nat} {b : Value} {rs : List UInt8} {cs : Array Value} (h : DSt w0 W g R P b rs cs) (j : Nat) (u : Value) :
    DSt w0 (W.setCell ⟨P, j, none⟩ u) g R P b rs (cs.setIfInBounds j u) :=
  ⟨⟨h.rd.blk.far (by exact h.gP) _, h.rd.rd.far (by exact h.bP) _, h.rd.ne⟩, h.rb.far (by exact h.rp) _, h.pb.set_ j u, h.gR, h.gP, h.rp, h.bR, h.bP, h.below.setCell (p := ⟨P, j, none⟩) h.pw _, h.gw, h.rw, h.pw⟩
theorem DSt.cast {w0 W : World} {g R P : Nat} {b : Value} {rs rs' : List UInt8} {cs cs' : Array Value} (h : DSt w0 W g R P b rs cs) (e : rs = rs') (e' : cs = cs') : DSt w0 W g R P b rs' cs' := e ▸ e' ▸ h
theorem DSt.readA {w0 W W' : World} {g R P : Nat} {b : Value} {oi : List UInt8} {cs : Array Value} {e : Ending} (k m : Nat) (h : DSt w0 W g R P b (oi.drop k) cs) (hm : k + m ≤ oi.length) (kk : NumOut W g b (takeP (oi.drop k) 0 (m : Int)) e W') :
    e = .returned (.int .i64 (numA oi k m : Nat)) ∧ ∃ b', DSt w0 W' g R P b' (oi.drop (k + m)) cs := by
  obtain ⟨he, b', h'⟩ := h.read (m := m) (by rw [List.length_drop]; omega) kk
  exact ⟨he, b', h'.cast (by rw [List.drop_drop]) rfl⟩
theorem DSt.len {w0 W : World} {g R P : Nat} {b : Value} {oi : List UInt8} {cs : Array Value} {k : Nat} (_ : DSt w0 W g R P b (oi.drop k) cs) (hm : oi.length = 60) : (oi.drop k).length ≤ 1000000000 := by rw [List.length_drop]; omega
theorem stop_store {P : Program} (t : TypeId) {w : World} {ops : Array Oper} {rest : List Oper} {dst : Option Tmp} {ty : TypeId} {pos : String} {after : Array Edge} {g : Option (Nat × Bool)} {a : Act} {Q : Exit → Act → World → Prop} {x y : Operand}
    (h : Stop (wpList P ops Q (⟨dst, .store t x y, ty, pos, after, g⟩ :: rest) a w)) : wpList P ops Q (⟨dst, .store t x y, ty, pos, after, g⟩ :: rest) a w := h
theorem exec_load {P : Program} {o : Oper} {a : Act} {w : World} {ty : TypeId} {x : Operand} {ad : Addr} {v : Value} (ho : o.op = .load ty x) (hx : a.eval x = .pointer (some ad)) (hl : (Instr.loadAt ty (.pointer (some ad))).run P w = .ok v w) :
    (execOp a.eval o).run P w = .ok (.value v) w := by
  unfold execOp
  simp only [ho, hx, Sem.run_bind, hl, Result.andThen_ok, Sem.run_pure]
def RdrNew3 (w : World) (bs : List UInt8) (e : Ending) (w' : World) : Prop := ∃ g b, e = .returned (.pointer (some ⟨g, 0, none⟩)) ∧ w.heap.size ≤ g ∧ Rdr w' g b bs 0 ∧ Below w.heap.size w w' ∧ (∀ k, b.ownBlock = some k → w.heap.size ≤ k ∧ k < w'.heap.size)
set_option maxHeartbeats 400000 in
theorem NewReader3_calls (w : World) (x : Value) (bs : List UInt8) (hx : Rd w x (bvs bs)) (hl : bs.length ≤ 1000000000) :
    Calls Try.prog 24 #[x] w (RdrNew3 w bs) := by
  obtain ⟨A, c, rfl⟩ := hx.shape8
  go_enter Try.func24, Try.ntmps24
  go_wp2_with fail
  refine (Clone8_calls w _ bs hx hl).mono ?_
  rintro e w1 ⟨r, rfl, k1, k2, k3⟩
  obtain ⟨A1, c1, rfl⟩ := k1.shape
  go_wp2
  go_ret
  refine ⟨_, _, rfl, k2.size, ⟨Blk.new _ _ _, (Rd.of_own k1).alloc _, fun e => ?_⟩, k2.alloc k2.size _, fun k hk => ⟨k3 k hk, ?_⟩⟩
  · have := k1.lt _ e
    omega
  · have h1 := k1.lt _ hk
    have h2 := (((Below.refl _ w1).alloc (Nat.le_refl _) (.cells #[.slice A1 bs.length c1, .int .i64 0] 82))).size
    exact Nat.lt_of_lt_of_le h1 h2
def decP (b : List UInt8) : Nd × Int :=
  if b.length < 64 then (zeroNd, 2) else if 64 < b.length then (zeroNd, 5) else if (openP b).2 ≠ 0 then (zeroNd, (openP b).2) else
    if 2 < (rdN (openP b).1).kind ∨ 8458240 < (rdN (openP b).1).size ∨ encP (rdN (openP b).1) ≠ b then (zeroNd, 3) else (rdN (openP b).1, 0)
def DecOut (w : World) (o : Nd × Int) (e : Ending) (w' : World) : Prop := e = .returned (.tuple #[.agg o.1.cells, .int .i64 o.2]) ∧ Below w.heap.size w w'
theorem Equal_calls (w : World) (x y : Value) (us vs : List UInt8) (hx : Rd w x (bvs us)) (hy : Rd w y (bvs vs)) :
    Calls Try.prog 56 #[x, y] w (Ans w (.bool (us == vs))) := by
  have s1 := run_str (P := Try.prog) w 28 9 5 _ _ Try.underlying28 Try.underlying5 Try.underlying9 hx
  have s2 := run_str (P := Try.prog) w 28 9 5 _ _ Try.underlying28 Try.underlying5 Try.underlying9 hy
  unfold str at s1 s2
  go_enter Try.func56, Try.ntmps56
  go_wp2
  go_ret
  exact ⟨rfl, rfl⟩
set_option maxRecDepth 10000 in
set_option maxHeartbeats 4000000 in
theorem Decode_calls (w : World) (x : Value) (bs : List UInt8) (hx : Rd w x (bvs bs)) (hl : bs.length ≤ 100000000) : Calls Try.prog 43 #[x] w (DecOut w (decP bs)) := by
  have hx0 := hx
  obtain ⟨A, c, rfl⟩ := hx.shape8
  by_cases h1 : bs.length < 64
  · have e : decP bs = (zeroNd, 2) := by unfold decP; rw [if_pos h1]
    rw [e]
    clear e
    go_enter Try.func43, Try.ntmps43
    go_wp2
    (try simp only [Exit.inBlock, Exit.then])
    refine bodyPost_ret (results_cell_tmp (ty := 65) rfl rfl (loadVar_blk (Blk.new _ _ _) Try.underlying65 rfl (by kernel_rfl))) rfl ?_
    exact ⟨rfl, (Below.refl _ _).alloc (Nat.le_refl _) _⟩
  · by_cases h2 : 64 < bs.length
    · have e : decP bs = (zeroNd, 5) := by unfold decP; rw [if_neg h1, if_pos h2]
      rw [e]
      clear e
      go_enter Try.func43, Try.ntmps43
      go_wp2
      (try simp only [Exit.inBlock, Exit.then])
      refine bodyPost_ret (results_cell_tmp (ty := 65) rfl rfl (loadVar_blk (Blk.new _ _ _) Try.underlying65 rfl (by kernel_rfl))) rfl ?_
      exact ⟨rfl, (Below.refl _ _).alloc (Nat.le_refl _) _⟩
    · have hlen : bs.length = 64 := by omega
      have hz : Hid (decP bs = if (openP bs).2 ≠ 0 then (zeroNd, (openP bs).2) else
          if 2 < (rdN (openP bs).1).kind ∨ 8458240 < (rdN (openP bs).1).size ∨ encP (rdN (openP bs).1) ≠ bs then (zeroNd, 3) else (rdN (openP bs).1, 0)) := by
        show _ = _
        unfold decP
        rw [if_neg h1, if_neg h2]
      have hopl : Hid ((openP bs).2 = 0 → (openP bs).1.length = 60) := by
        intro h0
        unfold openP at h0 ⊢
        split at h0
        · simp at h0
        · split at h0
          · rename_i ha hb
            rw [if_neg ha, if_pos hb]
            simp only [List.length_take]
            omega
          · simp at h0
      have hR0 : Blk (w.alloc (.cells zeroNd.cells 65)) w.heap.size 65 zeroNd.cells := Blk.new _ _ _
      have hB0 : Below w.heap.size w (w.alloc (.cells zeroNd.cells 65)) := (Below.refl _ _).alloc (Nat.le_refl _) _
      obtain ⟨w0, hw0⟩ : ∃ w0, w0 = w.alloc (.cells zeroNd.cells 65) := ⟨_, rfl⟩
      rw [← hw0] at hR0 hB0
      have hx1 := hx0.below hB0
      have HO := Open_calls w0 _ bs hx1 hl
      obtain ⟨op, hop⟩ : ∃ op, Hid (openP bs = op) := ⟨_, rfl⟩
      rw [hop.out] at HO hz hopl
      have HO := Lib.hid HO
      have hR0 := Lib.hid hR0
      have hB0 := Lib.hid hB0
      have hx1 := Lib.hid hx1
      unfold zeroNd Nd.cells at hw0
      simp only at hw0
      have hx64 : Hid (Rd w (.slice A 64 c) (bvs bs)) := by
        show Rd _ _ _
        rw [← hlen]
        exact hx0
      rw [hlen] at *
      go_enter Try.func43, Try.ntmps43
      go_wp2_with fail
      rw [← hw0]
      clear hw0
      refine HO.out.mono ?_
      rintro e w1 ⟨r1, rfl, ho1, hB1, hf1⟩
      obtain ⟨oi, oe⟩ := op
      simp only at ho1 hopl hz hf1 ⊢
      have hB1' := hB0.out.trans (hB1.mono hB0.out.size)
      have hR1 := hR0.out.chg (Chg.of_below hB1) (S := fun _ => False) id
      by_cases he : oe = 0
      · subst he
        have hL := hopl.out rfl
        obtain ⟨N, hN⟩ : ∃ N, Hid (N = rdN oi) := ⟨_, rfl⟩
        have hz : Hid (decP bs = if 2 < N.kind ∨ 8458240 < N.size ∨ encP N ≠ bs then (zeroNd, 3) else (N, 0)) := by
          show _ = _
          rw [hz.out, if_neg (by simp), hN.out]
        have hLh := Lib.hid hL
        have ho1h := Lib.hid ho1
        obtain ⟨A1, c1, rfl⟩ := ho1.shape
        have hR1h := Lib.hid hR1
        have hB1h := Lib.hid hB1'
        rw [hL]
        clear hL hopl ho1 hR1 hB1' hf1
        go_wp2_with fail
        refine (NewReader3_calls w1 _ oi (by have := Rd.of_own ho1h.out; rw [hLh.out] at this; exact this) (by have := hLh.out; omega)).mono ?_
        rintro e w2 ⟨g, b, rfl, hg, hR, hB2, hb⟩
        have hRb2 := hR1h.out.chg (Chg.of_below hB2) (S := fun _ => False) id
        have hB2' := hB1h.out.trans (hB2.mono hB1h.out.size)
        have hgw : w.heap.size ≤ g := Nat.le_trans hB1h.out.size hg
        have hgR : g ≠ w.heap.size := by
          have := hR1h.out.lt
          omega
        have hbR : b.ownBlock ≠ some w.heap.size := by
          intro e
          have := (hb _ e).1
          have := hR1h.out.lt
          omega
        go_wp2_with fail
        refine (RU8_calls w2 g b oi 0 hR (by have := hLh.out; omega)).mono ?_
        intro e w3 kk
        have kk : NumOut w2 g b (takeP oi 0 ((1 : Nat) : Int)) e w3 := kk
        rw [takeP_ok oi 1 (by have := hLh.out; omega)] at kk
        obtain ⟨b3, rfl, h3, hc3, hb3⟩ := kk
        have hS0 : DSt w (w3.alloc (.cells (partC oi 0) 65)) g w.heap.size w3.heap.size b3 (oi.drop 1) (partC oi 0) := by
          have hlt := h3.blk.lt
          have hal : Below w3.heap.size w3 (w3.alloc (.cells (partC oi 0) 65)) := (Below.refl _ _).alloc (Nat.le_refl _) _
          have hB3 : Below w.heap.size w w3 := hB2'.trans (hc3.below hB2'.size (fun k hk => by rw [hk]; exact hgw))
          have hRb3 := hRb2.chg hc3 (fun e => hgR e.symm)
          have hsz := hc3.size
          refine ⟨h3.below hal, hRb3.alloc _, Blk.new _ _ _, hgR, by omega, by have := hRb3.lt; omega, by rw [hb3]; exact hbR, fun e => ?_, hB3.alloc hB3.size _, hgw, Nat.le_refl _, hB3.size⟩
          rw [hb3] at e
          have := (hb _ e).2
          omega
        have hS0 := Lib.hid hS0
        obtain ⟨K0, hK0⟩ : ∃ K0, Hid (K0 = numA oi 0 1) := ⟨_, rfl⟩
        rw [show numP (oi.take 1, oi.drop 1, (0 : Int)).1 = K0 from hK0.out.symm]
        have hpc : partC oi 0 = #[.int .i64 K0, .int .i64 0, .int .i64 0, .int .i64 0, .int .i64 0, .int .i64 0, .int .i64 0, .int .i64 0, .int .i64 0, .int .i64 0, .int .i64 0, .int .i64 0, .int .i64 0] := by
          rw [hK0.out]
          rfl
        obtain ⟨w4, hw4⟩ : ∃ w4, w4 = w3.alloc (.cells (partC oi 0) 65) := ⟨_, rfl⟩
        rw [← hw4] at hS0
        rw [hpc] at hw4
        generalize hPq : w3.heap.size = P at *
        have hPh := Lib.hid hPq
        clear hR hB2 hb hRb2 hB2' hgw hgR hbR h3 hc3 hb3 kk hpc
        go_wp2_with fail
        rw [← hw4]
        clear hw4 hPq
        have hU := Lib.hid (RU8_calls w4 g b3 _ 0 hS0.out.rd (hS0.out.len hLh.out))
        go_wp2_with fail
        refine hU.out.mono ?_
        intro e w5 kk
        obtain ⟨rfl, b4, hS1⟩ := DSt.readA 1 1 hS0.out (by have := hLh.out; omega) kk
        have hS1 := Lib.hid hS1
        clear kk hU
        have hU := Lib.hid (RU16_calls w5 g b4 _ 0 hS1.out.rd (hS1.out.len hLh.out))
        go_wp2_with fail
        refine hU.out.mono ?_
        intro e w6 kk
        obtain ⟨rfl, b5, hS2⟩ := DSt.readA 2 2 hS1.out (by have := hLh.out; omega) kk
        have hS2 := Lib.hid hS2
        clear kk hU
        have hU := Lib.hid (RU32_calls w6 g b5 _ 0 hS2.out.rd (hS2.out.len hLh.out))
        go_wp2_with fail
        refine hU.out.mono ?_
        intro e w7 kk
        obtain ⟨rfl, b6, hS3⟩ := DSt.readA 4 4 hS2.out (by have := hLh.out; omega) kk
        have hS3 := Lib.hid hS3
        clear kk hU
        have f1 : w7.cell? ⟨P, 1, none⟩ = some (.int .i64 0) := hS3.out.pb.cell 1
        have f2 : w7.cell? ⟨P, 2, none⟩ = some (.int .i64 0) := hS3.out.pb.cell 2
        have fr := hS3.out.pb.frozen 1
        have fr2 := hS3.out.pb.frozen 2
        have hS4 : Hid (DSt w ((w7.setCell ⟨P, 1, none⟩ (.int .i64 (numA oi 2 2))).setCell ⟨P, 2, none⟩ (.int .i64 (numA oi 4 4))) g w.heap.size P b6 (oi.drop 8) (partC oi 1)) := ((hS3.out.put 1 _).put 2 _).cast rfl rfl
        clear hS0 hS1 hS2 hS3
        go_wp2_with fail
        clear f1 f2 fr fr2
        go_loopw [41] (fun i wr => ∃ (k : Nat) (b : Value), k ≤ 8 ∧ i = .int .i64 k ∧ Hid (DSt w wr g w.heap.size P b (oi.drop (8 + 4 * k)) (partC oi (k + 1)))) (fun i _ => 8 - (intOf i).toNat)
        case atStart => exact ⟨0, _, Nat.zero_le _, rfl, hS4⟩
        case round =>
          obtain ⟨k, b, hk, rfl, hS⟩ := hrel
          clear hS4
          by_cases hlt : k < 8
          · rcases (show k = 0 ∨ k = 1 ∨ k = 2 ∨ k = 3 ∨ k = 4 ∨ k = 5 ∨ k = 6 ∨ k = 7 by omega) with rfl | rfl | rfl | rfl | rfl | rfl | rfl | rfl
            · skip
              have hU := Lib.hid (RU32_calls wr g b _ 0 hS.out.rd (hS.out.len hLh.out))
              go_wp2_with fail
              refine hU.out.mono ?_
              intro e w8 kk
              obtain ⟨rfl, b7, hT⟩ := DSt.readA 8 4 hS.out (by have := hLh.out; omega) kk
              have hT := Lib.hid hT
              clear kk hU
              have f3 : w8.cell? ⟨P, 3, none⟩ = some (.int .i64 0) := hT.out.pb.cell 3
              have fr3 := hT.out.pb.frozen 3
              have hT2 : Hid (DSt w (w8.setCell ⟨P, 3, none⟩ (.int .i64 (numA oi 8 4))) g w.heap.size P b7 (oi.drop (8 + 4 * 1)) (partC oi (1 + 1))) := (hT.out.put 3 _).cast rfl rfl
              clear hT hS
              go_wp2
              go_roundw
              case rel => exact ⟨1, b7, by omega, rfl, hT2⟩
              case measure => simp [intOf]
            · skip
              have hU := Lib.hid (RU32_calls wr g b _ 0 hS.out.rd (hS.out.len hLh.out))
              go_wp2_with fail
              refine hU.out.mono ?_
              intro e w8 kk
              obtain ⟨rfl, b7, hT⟩ := DSt.readA 12 4 hS.out (by have := hLh.out; omega) kk
              have hT := Lib.hid hT
              clear kk hU
              have f3 : w8.cell? ⟨P, 4, none⟩ = some (.int .i64 0) := hT.out.pb.cell 4
              have fr3 := hT.out.pb.frozen 4
              have hT2 : Hid (DSt w (w8.setCell ⟨P, 4, none⟩ (.int .i64 (numA oi 12 4))) g w.heap.size P b7 (oi.drop (8 + 4 * 2)) (partC oi (2 + 1))) := (hT.out.put 4 _).cast rfl rfl
              clear hT hS
              go_wp2
              go_roundw
              case rel => exact ⟨2, b7, by omega, rfl, hT2⟩
              case measure => simp [intOf]
            · skip
              have hU := Lib.hid (RU32_calls wr g b _ 0 hS.out.rd (hS.out.len hLh.out))
              go_wp2_with fail
              refine hU.out.mono ?_
              intro e w8 kk
              obtain ⟨rfl, b7, hT⟩ := DSt.readA 16 4 hS.out (by have := hLh.out; omega) kk
              have hT := Lib.hid hT
              clear kk hU
              have f3 : w8.cell? ⟨P, 5, none⟩ = some (.int .i64 0) := hT.out.pb.cell 5
              have fr3 := hT.out.pb.frozen 5
              have hT2 : Hid (DSt w (w8.setCell ⟨P, 5, none⟩ (.int .i64 (numA oi 16 4))) g w.heap.size P b7 (oi.drop (8 + 4 * 3)) (partC oi (3 + 1))) := (hT.out.put 5 _).cast rfl rfl
              clear hT hS
              go_wp2
              go_roundw
              case rel => exact ⟨3, b7, by omega, rfl, hT2⟩
              case measure => simp [intOf]
            · skip
              have hU := Lib.hid (RU32_calls wr g b _ 0 hS.out.rd (hS.out.len hLh.out))
              go_wp2_with fail
              refine hU.out.mono ?_
              intro e w8 kk
              obtain ⟨rfl, b7, hT⟩ := DSt.readA 20 4 hS.out (by have := hLh.out; omega) kk
              have hT := Lib.hid hT
              clear kk hU
              have f3 : w8.cell? ⟨P, 6, none⟩ = some (.int .i64 0) := hT.out.pb.cell 6
              have fr3 := hT.out.pb.frozen 6
              have hT2 : Hid (DSt w (w8.setCell ⟨P, 6, none⟩ (.int .i64 (numA oi 20 4))) g w.heap.size P b7 (oi.drop (8 + 4 * 4)) (partC oi (4 + 1))) := (hT.out.put 6 _).cast rfl rfl
              clear hT hS
              go_wp2
              go_roundw
              case rel => exact ⟨4, b7, by omega, rfl, hT2⟩
              case measure => simp [intOf]
            · skip
              have hU := Lib.hid (RU32_calls wr g b _ 0 hS.out.rd (hS.out.len hLh.out))
              go_wp2_with fail
              refine hU.out.mono ?_
              intro e w8 kk
              obtain ⟨rfl, b7, hT⟩ := DSt.readA 24 4 hS.out (by have := hLh.out; omega) kk
              have hT := Lib.hid hT
              clear kk hU
              have f3 : w8.cell? ⟨P, 7, none⟩ = some (.int .i64 0) := hT.out.pb.cell 7
              have fr3 := hT.out.pb.frozen 7
              have hT2 : Hid (DSt w (w8.setCell ⟨P, 7, none⟩ (.int .i64 (numA oi 24 4))) g w.heap.size P b7 (oi.drop (8 + 4 * 5)) (partC oi (5 + 1))) := (hT.out.put 7 _).cast rfl rfl
              clear hT hS
              go_wp2
              go_roundw
              case rel => exact ⟨5, b7, by omega, rfl, hT2⟩
              case measure => simp [intOf]
            · skip
              have hU := Lib.hid (RU32_calls wr g b _ 0 hS.out.rd (hS.out.len hLh.out))
              go_wp2_with fail
              refine hU.out.mono ?_
              intro e w8 kk
              obtain ⟨rfl, b7, hT⟩ := DSt.readA 28 4 hS.out (by have := hLh.out; omega) kk
              have hT := Lib.hid hT
              clear kk hU
              have f3 : w8.cell? ⟨P, 8, none⟩ = some (.int .i64 0) := hT.out.pb.cell 8
              have fr3 := hT.out.pb.frozen 8
              have hT2 : Hid (DSt w (w8.setCell ⟨P, 8, none⟩ (.int .i64 (numA oi 28 4))) g w.heap.size P b7 (oi.drop (8 + 4 * 6)) (partC oi (6 + 1))) := (hT.out.put 8 _).cast rfl rfl
              clear hT hS
              go_wp2
              go_roundw
              case rel => exact ⟨6, b7, by omega, rfl, hT2⟩
              case measure => simp [intOf]
            · skip
              have hU := Lib.hid (RU32_calls wr g b _ 0 hS.out.rd (hS.out.len hLh.out))
              go_wp2_with fail
              refine hU.out.mono ?_
              intro e w8 kk
              obtain ⟨rfl, b7, hT⟩ := DSt.readA 32 4 hS.out (by have := hLh.out; omega) kk
              have hT := Lib.hid hT
              clear kk hU
              have f3 : w8.cell? ⟨P, 9, none⟩ = some (.int .i64 0) := hT.out.pb.cell 9
              have fr3 := hT.out.pb.frozen 9
              have hT2 : Hid (DSt w (w8.setCell ⟨P, 9, none⟩ (.int .i64 (numA oi 32 4))) g w.heap.size P b7 (oi.drop (8 + 4 * 7)) (partC oi (7 + 1))) := (hT.out.put 9 _).cast rfl rfl
              clear hT hS
              go_wp2
              go_roundw
              case rel => exact ⟨7, b7, by omega, rfl, hT2⟩
              case measure => simp [intOf]
            · skip
              have hU := Lib.hid (RU32_calls wr g b _ 0 hS.out.rd (hS.out.len hLh.out))
              go_wp2_with fail
              refine hU.out.mono ?_
              intro e w8 kk
              obtain ⟨rfl, b7, hT⟩ := DSt.readA 36 4 hS.out (by have := hLh.out; omega) kk
              have hT := Lib.hid hT
              clear kk hU
              have f3 : w8.cell? ⟨P, 10, none⟩ = some (.int .i64 0) := hT.out.pb.cell 10
              have fr3 := hT.out.pb.frozen 10
              have hT2 : Hid (DSt w (w8.setCell ⟨P, 10, none⟩ (.int .i64 (numA oi 36 4))) g w.heap.size P b7 (oi.drop (8 + 4 * 8)) (partC oi (8 + 1))) := (hT.out.put 10 _).cast rfl rfl
              clear hT hS
              go_wp2
              go_roundw
              case rel => exact ⟨8, b7, by omega, rfl, hT2⟩
              case measure => simp [intOf]
          · obtain rfl : k = 8 := by omega
            have hS9 : Hid (DSt w wr g w.heap.size P b (oi.drop 40) (partC oi 9)) := hS
            clear hS hlt
            have hU := Lib.hid (RU32_calls wr g b _ 0 hS9.out.rd (hS9.out.len hLh.out))
            go_wp2_with fail
            refine hU.out.mono ?_
            intro e w8 kk
            obtain ⟨rfl, b7, hT1⟩ := DSt.readA 40 4 hS9.out (by have := hLh.out; omega) kk
            have hT1 := Lib.hid hT1
            clear kk hU
            have hU := Lib.hid (RU32_calls w8 g b7 _ 0 hT1.out.rd (hT1.out.len hLh.out))
            go_wp2_with fail
            refine hU.out.mono ?_
            intro e w9 kk
            obtain ⟨rfl, b8, hT2⟩ := DSt.readA 44 4 hT1.out (by have := hLh.out; omega) kk
            have hT2 := Lib.hid hT2
            clear kk hU
            have f1 : w9.cell? ⟨P, 11, none⟩ = some (.int .i64 0) := hT2.out.pb.cell 11
            have f2 : w9.cell? ⟨P, 12, none⟩ = some (.int .i64 0) := hT2.out.pb.cell 12
            have fr := hT2.out.pb.frozen 11
            have fr2 := hT2.out.pb.frozen 12
            have hF : DSt w ((w9.setCell ⟨P, 11, none⟩ (.int .i64 (numA oi 40 4))).setCell ⟨P, 12, none⟩ (.int .i64 (numA oi 44 4))) g w.heap.size P b8 (oi.drop 48) (rdN oi).cells := ((hT2.out.put 11 _).put 12 _).cast rfl rfl
            rw [← hN.out] at hF
            have hF := Lib.hid hF
            clear hS9 hT1 hT2
            go_wp2_with fail
            clear f1 f2 fr fr2
            generalize (w9.setCell ⟨P, 11, none⟩ (.int .i64 (numA oi 40 4))).setCell ⟨P, 12, none⟩ (.int .i64 (numA oi 44 4)) = wz at *
            have hxz := Lib.hid (hx64.out.below hF.out.below)
            obtain ⟨C, hCd⟩ : ∃ C : World → Prop, C = fun W => Blk W P 65 N.cells ∧ Rd W (.slice A 64 c) (bvs bs) ∧ Blk W w.heap.size 65 zeroNd.cells ∧ Below w.heap.size w W := ⟨_, rfl⟩
            have hC0 : C wz.drew := by rw [hCd]; exact ⟨hF.out.pb.drew, hxz.out.drew, hF.out.rb.drew, hF.out.below.drew⟩
            have hCk : Hid (∀ W, C W → W.cell? ⟨P, 0, none⟩ = some (.int .i64 N.kind)) := by intro W h; rw [hCd] at h; exact h.1.cell 0
            have hCs : Hid (∀ W, C W → W.cell? ⟨P, 2, none⟩ = some (.int .i64 N.size)) := by intro W h; rw [hCd] at h; exact h.1.cell 2
            have hCl : Hid (∀ W, C W → (Instr.loadAt 65 (.pointer (some ⟨P, 0, none⟩))).run Try.prog W = .ok (.agg N.cells) W) := by
              intro W h
              rw [hCd] at h
              simp only [Instr.loadAt, Instr.sureAddr, Sem.run_bind, Sem.run_pure, Result.andThen_ok]
              exact loadVar_blk h.1 Try.underlying65 rfl (by kernel_rfl)
            have hCb : Hid (∀ W W', C W → Below W.heap.size W W' → C W') := by
              intro W W' h hb
              rw [hCd] at h ⊢
              exact ⟨h.1.chg (Chg.of_below hb) (S := fun _ => False) id, h.2.1.below hb, h.2.2.1.chg (Chg.of_below hb) (S := fun _ => False) id, h.2.2.2.trans (hb.mono h.2.2.2.size)⟩
            have hCx : Hid (∀ W, C W → Rd W (.slice A 64 c) (bvs bs)) := by intro W h; rw [hCd] at h; exact h.2.1
            have hCr : Hid (∀ W, C W → Blk W w.heap.size 65 zeroNd.cells ∧ Below w.heap.size w W ∧ Blk W P 65 N.cells) := by intro W h; rw [hCd] at h; exact ⟨h.2.2.1, h.2.2.2, h.1⟩
            have HM := Lib.hid (fun W => Most_calls W)
            clear hCd hF hxz
            by_cases g1 : 2 < N.kind
            · have hz2 : Hid (decP bs = (zeroNd, 3)) := by show _ = _; rw [hz.out, if_pos (.inl g1)]
              refine wp_mixs C [6, 11, 13] (by kernel_rfl) (by kernel_rfl) (by kernel_rfl) (by decide) hC0 ?_
              (first | refine mixsq rfl rfl 0 (by decide +kernel) ?_ (fun w' hw' => Or.inl ?_) (fun K hK => ?_) | refine mixsq rfl rfl 1 (by decide +kernel) ?_ (fun w' hw' => Or.inl ?_) (fun K hK => ?_) | refine mixsq rfl rfl 2 (by decide +kernel) ?_ (fun w' hw' => Or.inl ?_) (fun K hK => ?_) | refine mixsq rfl rfl 3 (by decide +kernel) ?_ (fun w' hw' => Or.inl ?_) (fun K hK => ?_)); rotate_left; (focus (have hc : C w' := hw'; go_simp; rfl)); go_simp; refine hK _ ?_; clear hK K
              (first | refine mixsq rfl rfl 0 (by decide +kernel) ?_ (fun w' hw' => Or.inl ?_) (fun K hK => ?_) | refine mixsq rfl rfl 1 (by decide +kernel) ?_ (fun w' hw' => Or.inl ?_) (fun K hK => ?_) | refine mixsq rfl rfl 2 (by decide +kernel) ?_ (fun w' hw' => Or.inl ?_) (fun K hK => ?_) | refine mixsq rfl rfl 3 (by decide +kernel) ?_ (fun w' hw' => Or.inl ?_) (fun K hK => ?_)); rotate_left; (focus (have hc : C w' := hw'; have c0 := hCk.out w' hc; go_simp; rfl)); go_simp; refine hK _ ?_; clear hK K
              (first | refine mixsq rfl rfl 0 (by decide +kernel) ?_ (fun w' hw' => Or.inl ?_) (fun K hK => ?_) | refine mixsq rfl rfl 1 (by decide +kernel) ?_ (fun w' hw' => Or.inl ?_) (fun K hK => ?_) | refine mixsq rfl rfl 2 (by decide +kernel) ?_ (fun w' hw' => Or.inl ?_) (fun K hK => ?_) | refine mixsq rfl rfl 3 (by decide +kernel) ?_ (fun w' hw' => Or.inl ?_) (fun K hK => ?_)); rotate_left; (focus (have hc : C w' := hw'; go_simp; rfl)); go_simp; refine hK _ ?_; clear hK K
              (first | refine mixsq rfl rfl 0 (by decide +kernel) ?_ (fun w' hw' => Or.inl ?_) (fun K hK => ?_) | refine mixsq rfl rfl 1 (by decide +kernel) ?_ (fun w' hw' => Or.inl ?_) (fun K hK => ?_) | refine mixsq rfl rfl 2 (by decide +kernel) ?_ (fun w' hw' => Or.inl ?_) (fun K hK => ?_) | refine mixsq rfl rfl 3 (by decide +kernel) ?_ (fun w' hw' => Or.inl ?_) (fun K hK => ?_)); rotate_left; (focus (have hc : C w' := hw'; go_simp; rfl)); go_simp; refine hK _ ?_; clear hK K
              iterate 2 (refine mixsq_no rfl (by first | rfl | kernel_rfl) (fun K hK => ?_); go_simp; refine hK _ ?_; clear hK K)
              (refine mixsl_no rfl (by first | rfl | kernel_rfl) (fun K hK => ?_); go_simp; refine hK _ ?_; clear hK K)
              iterate 1 (refine mixsq_no rfl (by first | rfl | kernel_rfl) (fun K hK => ?_); go_simp; refine hK _ ?_; clear hK K)
              (first | refine mixsq rfl rfl 0 (by decide +kernel) ?_ (fun w' hw' => Or.inl ?_) (fun K hK => ?_) | refine mixsq rfl rfl 1 (by decide +kernel) ?_ (fun w' hw' => Or.inl ?_) (fun K hK => ?_) | refine mixsq rfl rfl 2 (by decide +kernel) ?_ (fun w' hw' => Or.inl ?_) (fun K hK => ?_) | refine mixsq rfl rfl 3 (by decide +kernel) ?_ (fun w' hw' => Or.inl ?_) (fun K hK => ?_)); rotate_left; (focus (have hc : C w' := hw'; go_simp; rfl)); go_simp; refine hK _ ?_; clear hK K
              (first | refine mixsq rfl rfl 0 (by decide +kernel) ?_ (fun w' hw' => Or.inl ?_) (fun K hK => ?_) | refine mixsq rfl rfl 1 (by decide +kernel) ?_ (fun w' hw' => Or.inl ?_) (fun K hK => ?_) | refine mixsq rfl rfl 2 (by decide +kernel) ?_ (fun w' hw' => Or.inl ?_) (fun K hK => ?_) | refine mixsq rfl rfl 3 (by decide +kernel) ?_ (fun w' hw' => Or.inl ?_) (fun K hK => ?_)); rotate_left; (focus (have hc : C w' := hw'; go_simp; rfl)); go_simp; refine hK _ ?_; clear hK K
              iterate 1 (refine mixsq_no rfl (by first | rfl | kernel_rfl) (fun K hK => ?_); go_simp; refine hK _ ?_; clear hK K)
              (refine mixsl_no rfl (by first | rfl | kernel_rfl) (fun K hK => ?_); go_simp; refine hK _ ?_; clear hK K)
              iterate 1 (refine mixsq_no rfl (by first | rfl | kernel_rfl) (fun K hK => ?_); go_simp; refine hK _ ?_; clear hK K)
              (refine mixsl_no rfl (by first | rfl | kernel_rfl) (fun K hK => ?_); go_simp; refine hK _ ?_; clear hK K)
              iterate 1 (refine mixsq_no rfl (by first | rfl | kernel_rfl) (fun K hK => ?_); go_simp; refine hK _ ?_; clear hK K)
              (first | refine mixsq rfl rfl 0 (by decide +kernel) ?_ (fun w' hw' => Or.inl ?_) (fun K hK => ?_) | refine mixsq rfl rfl 1 (by decide +kernel) ?_ (fun w' hw' => Or.inl ?_) (fun K hK => ?_) | refine mixsq rfl rfl 2 (by decide +kernel) ?_ (fun w' hw' => Or.inl ?_) (fun K hK => ?_) | refine mixsq rfl rfl 3 (by decide +kernel) ?_ (fun w' hw' => Or.inl ?_) (fun K hK => ?_)); rotate_left; (focus (have hc : C w' := hw'; go_simp; rfl)); go_simp; refine hK _ ?_; clear hK K
              refine mixs_nil ?_
              obtain ⟨k1, k2, k3⟩ := hCr.out _ hC0
              have k1 := Lib.hid k1
              have k2 := Lib.hid k2
              clear k3
              go_wp2_with (with_reducible refine stop_store 65 ?_)
              refine Stop.mk (wpList_store_row rfl 65 _ _ rfl w.heap.size zeroNd.cells rfl rfl 65 zeroNd.cells k1.out (by kernel_rfl) rfl (by kernel_rfl) ?_)
              have hR2 : Blk (World.setRow wz.drew w.heap.size zeroNd.cells) w.heap.size 65 zeroNd.cells := setRow_heap _ _ _ _ _ _ k1.out
              have hB2 : Below w.heap.size w (World.setRow wz.drew w.heap.size zeroNd.cells) := below_setRow k2.out (Nat.le_refl _) _
              generalize World.setRow wz.drew w.heap.size zeroNd.cells = w2 at *
              go_wp2
              (try simp only [Exit.inBlock, Exit.then])
              refine bodyPost_ret (results_cell_tmp (ty := 65) rfl rfl (loadVar_blk hR2 Try.underlying65 rfl (by kernel_rfl))) rfl ?_
              rw [hz2.out]
              exact ⟨rfl, hB2⟩
            · by_cases g2 : 8458240 < N.size
              · have hz2 : Hid (decP bs = (zeroNd, 3)) := by show _ = _; rw [hz.out, if_pos (.inr (.inl g2))]
                refine wp_mixs C [6, 11, 13] (by kernel_rfl) (by kernel_rfl) (by kernel_rfl) (by decide) hC0 ?_
                (first | refine mixsq rfl rfl 0 (by decide +kernel) ?_ (fun w' hw' => Or.inl ?_) (fun K hK => ?_) | refine mixsq rfl rfl 1 (by decide +kernel) ?_ (fun w' hw' => Or.inl ?_) (fun K hK => ?_) | refine mixsq rfl rfl 2 (by decide +kernel) ?_ (fun w' hw' => Or.inl ?_) (fun K hK => ?_) | refine mixsq rfl rfl 3 (by decide +kernel) ?_ (fun w' hw' => Or.inl ?_) (fun K hK => ?_)); rotate_left; (focus (have hc : C w' := hw'; go_simp; rfl)); go_simp; refine hK _ ?_; clear hK K
                (first | refine mixsq rfl rfl 0 (by decide +kernel) ?_ (fun w' hw' => Or.inl ?_) (fun K hK => ?_) | refine mixsq rfl rfl 1 (by decide +kernel) ?_ (fun w' hw' => Or.inl ?_) (fun K hK => ?_) | refine mixsq rfl rfl 2 (by decide +kernel) ?_ (fun w' hw' => Or.inl ?_) (fun K hK => ?_) | refine mixsq rfl rfl 3 (by decide +kernel) ?_ (fun w' hw' => Or.inl ?_) (fun K hK => ?_)); rotate_left; (focus (have hc : C w' := hw'; have c0 := hCk.out w' hc; go_simp; rfl)); go_simp; refine hK _ ?_; clear hK K
                (first | refine mixsq rfl rfl 0 (by decide +kernel) ?_ (fun w' hw' => Or.inl ?_) (fun K hK => ?_) | refine mixsq rfl rfl 1 (by decide +kernel) ?_ (fun w' hw' => Or.inl ?_) (fun K hK => ?_) | refine mixsq rfl rfl 2 (by decide +kernel) ?_ (fun w' hw' => Or.inl ?_) (fun K hK => ?_) | refine mixsq rfl rfl 3 (by decide +kernel) ?_ (fun w' hw' => Or.inl ?_) (fun K hK => ?_)); rotate_left; (focus (have hc : C w' := hw'; go_simp; rfl)); go_simp; refine hK _ ?_; clear hK K
                (first | refine mixsq rfl rfl 0 (by decide +kernel) ?_ (fun w' hw' => Or.inl ?_) (fun K hK => ?_) | refine mixsq rfl rfl 1 (by decide +kernel) ?_ (fun w' hw' => Or.inl ?_) (fun K hK => ?_) | refine mixsq rfl rfl 2 (by decide +kernel) ?_ (fun w' hw' => Or.inl ?_) (fun K hK => ?_) | refine mixsq rfl rfl 3 (by decide +kernel) ?_ (fun w' hw' => Or.inl ?_) (fun K hK => ?_)); rotate_left; (focus (have hc : C w' := hw'; go_simp; rfl)); go_simp; refine hK _ ?_; clear hK K
                (first | refine mixsq_yes rfl (by first | rfl | kernel_rfl) 0 (by decide +kernel) ?_ (fun w' hw' => Or.inl ?_) (fun K hK => ?_) | refine mixsq_yes rfl (by first | rfl | kernel_rfl) 1 (by decide +kernel) ?_ (fun w' hw' => Or.inl ?_) (fun K hK => ?_) | refine mixsq_yes rfl (by first | rfl | kernel_rfl) 2 (by decide +kernel) ?_ (fun w' hw' => Or.inl ?_) (fun K hK => ?_) | refine mixsq_yes rfl (by first | rfl | kernel_rfl) 3 (by decide +kernel) ?_ (fun w' hw' => Or.inl ?_) (fun K hK => ?_)); rotate_left; (focus (have hc : C w' := hw'; go_simp; rfl)); go_simp; refine hK _ ?_; clear hK K
                (first | refine mixsq_yes rfl (by first | rfl | kernel_rfl) 0 (by decide +kernel) ?_ (fun w' hw' => Or.inl ?_) (fun K hK => ?_) | refine mixsq_yes rfl (by first | rfl | kernel_rfl) 1 (by decide +kernel) ?_ (fun w' hw' => Or.inl ?_) (fun K hK => ?_) | refine mixsq_yes rfl (by first | rfl | kernel_rfl) 2 (by decide +kernel) ?_ (fun w' hw' => Or.inl ?_) (fun K hK => ?_) | refine mixsq_yes rfl (by first | rfl | kernel_rfl) 3 (by decide +kernel) ?_ (fun w' hw' => Or.inl ?_) (fun K hK => ?_)); rotate_left; (focus (have hc : C w' := hw'; have c2 := hCs.out w' hc; go_simp; rfl)); go_simp; refine hK _ ?_; clear hK K
                refine mixsl_yes rfl (by first | rfl | kernel_rfl) (fun K hK => ?_)
                go_simp
                refine (HM.out _).mono ?_
                rintro e w10 ⟨rfl, rfl⟩
                refine hK C _ _ (fun _ => ⟨hC0, fun _ => hC0⟩) ?_
                clear hK K
                (first | refine mixsq_yes rfl (by first | rfl | kernel_rfl) 0 (by decide +kernel) ?_ (fun w' hw' => Or.inl ?_) (fun K hK => ?_) | refine mixsq_yes rfl (by first | rfl | kernel_rfl) 1 (by decide +kernel) ?_ (fun w' hw' => Or.inl ?_) (fun K hK => ?_) | refine mixsq_yes rfl (by first | rfl | kernel_rfl) 2 (by decide +kernel) ?_ (fun w' hw' => Or.inl ?_) (fun K hK => ?_) | refine mixsq_yes rfl (by first | rfl | kernel_rfl) 3 (by decide +kernel) ?_ (fun w' hw' => Or.inl ?_) (fun K hK => ?_)); rotate_left; (focus (have hc : C w' := hw'; go_simp; rfl)); go_simp; refine hK _ ?_; clear hK K
                (first | refine mixsq rfl rfl 0 (by decide +kernel) ?_ (fun w' hw' => Or.inl ?_) (fun K hK => ?_) | refine mixsq rfl rfl 1 (by decide +kernel) ?_ (fun w' hw' => Or.inl ?_) (fun K hK => ?_) | refine mixsq rfl rfl 2 (by decide +kernel) ?_ (fun w' hw' => Or.inl ?_) (fun K hK => ?_) | refine mixsq rfl rfl 3 (by decide +kernel) ?_ (fun w' hw' => Or.inl ?_) (fun K hK => ?_)); rotate_left; (focus (have hc : C w' := hw'; go_simp; rfl)); go_simp; refine hK _ ?_; clear hK K
                (first | refine mixsq rfl rfl 0 (by decide +kernel) ?_ (fun w' hw' => Or.inl ?_) (fun K hK => ?_) | refine mixsq rfl rfl 1 (by decide +kernel) ?_ (fun w' hw' => Or.inl ?_) (fun K hK => ?_) | refine mixsq rfl rfl 2 (by decide +kernel) ?_ (fun w' hw' => Or.inl ?_) (fun K hK => ?_) | refine mixsq rfl rfl 3 (by decide +kernel) ?_ (fun w' hw' => Or.inl ?_) (fun K hK => ?_)); rotate_left; (focus (have hc : C w' := hw'; go_simp; rfl)); go_simp; refine hK _ ?_; clear hK K
                iterate 1 (refine mixsq_no rfl (by first | rfl | kernel_rfl) (fun K hK => ?_); go_simp; refine hK _ ?_; clear hK K)
                (refine mixsl_no rfl (by first | rfl | kernel_rfl) (fun K hK => ?_); go_simp; refine hK _ ?_; clear hK K)
                iterate 1 (refine mixsq_no rfl (by first | rfl | kernel_rfl) (fun K hK => ?_); go_simp; refine hK _ ?_; clear hK K)
                (refine mixsl_no rfl (by first | rfl | kernel_rfl) (fun K hK => ?_); go_simp; refine hK _ ?_; clear hK K)
                iterate 1 (refine mixsq_no rfl (by first | rfl | kernel_rfl) (fun K hK => ?_); go_simp; refine hK _ ?_; clear hK K)
                (first | refine mixsq rfl rfl 0 (by decide +kernel) ?_ (fun w' hw' => Or.inl ?_) (fun K hK => ?_) | refine mixsq rfl rfl 1 (by decide +kernel) ?_ (fun w' hw' => Or.inl ?_) (fun K hK => ?_) | refine mixsq rfl rfl 2 (by decide +kernel) ?_ (fun w' hw' => Or.inl ?_) (fun K hK => ?_) | refine mixsq rfl rfl 3 (by decide +kernel) ?_ (fun w' hw' => Or.inl ?_) (fun K hK => ?_)); rotate_left; (focus (have hc : C w' := hw'; go_simp; rfl)); go_simp; refine hK _ ?_; clear hK K
                refine mixs_nil ?_
                obtain ⟨k1, k2, k3⟩ := hCr.out _ hC0
                have k1 := Lib.hid k1
                have k2 := Lib.hid k2
                clear k3
                go_wp2_with (with_reducible refine stop_store 65 ?_)
                refine Stop.mk (wpList_store_row rfl 65 _ _ rfl w.heap.size zeroNd.cells rfl rfl 65 zeroNd.cells k1.out (by kernel_rfl) rfl (by kernel_rfl) ?_)
                have hR2 : Blk (World.setRow wz.drew w.heap.size zeroNd.cells) w.heap.size 65 zeroNd.cells := setRow_heap _ _ _ _ _ _ k1.out
                have hB2 : Below w.heap.size w (World.setRow wz.drew w.heap.size zeroNd.cells) := below_setRow k2.out (Nat.le_refl _) _
                generalize World.setRow wz.drew w.heap.size zeroNd.cells = w2 at *
                go_wp2
                (try simp only [Exit.inBlock, Exit.then])
                refine bodyPost_ret (results_cell_tmp (ty := 65) rfl rfl (loadVar_blk hR2 Try.underlying65 rfl (by kernel_rfl))) rfl ?_
                rw [hz2.out]
                exact ⟨rfl, hB2⟩
              · have hE := Lib.hid (fun W => Encode_calls W N)
                obtain ⟨bq, hbq⟩ : ∃ bq, Hid ((encP N == bs) = bq) := ⟨_, rfl⟩
                have hQ := fun W x h => Equal_calls W x (.slice A 64 c) (encP N) bs h
                rw [hbq.out] at hQ
                have hQ := Lib.hid hQ
                refine wp_mixs C [6, 11, 13] (by kernel_rfl) (by kernel_rfl) (by kernel_rfl) (by decide) hC0 ?_
                (first | refine mixsq rfl rfl 0 (by decide +kernel) ?_ (fun w' hw' => Or.inl ?_) (fun K hK => ?_) | refine mixsq rfl rfl 1 (by decide +kernel) ?_ (fun w' hw' => Or.inl ?_) (fun K hK => ?_) | refine mixsq rfl rfl 2 (by decide +kernel) ?_ (fun w' hw' => Or.inl ?_) (fun K hK => ?_) | refine mixsq rfl rfl 3 (by decide +kernel) ?_ (fun w' hw' => Or.inl ?_) (fun K hK => ?_)); rotate_left; (focus (have hc : C w' := hw'; go_simp; rfl)); go_simp; refine hK _ ?_; clear hK K
                (first | refine mixsq rfl rfl 0 (by decide +kernel) ?_ (fun w' hw' => Or.inl ?_) (fun K hK => ?_) | refine mixsq rfl rfl 1 (by decide +kernel) ?_ (fun w' hw' => Or.inl ?_) (fun K hK => ?_) | refine mixsq rfl rfl 2 (by decide +kernel) ?_ (fun w' hw' => Or.inl ?_) (fun K hK => ?_) | refine mixsq rfl rfl 3 (by decide +kernel) ?_ (fun w' hw' => Or.inl ?_) (fun K hK => ?_)); rotate_left; (focus (have hc : C w' := hw'; have c0 := hCk.out w' hc; go_simp; rfl)); go_simp; refine hK _ ?_; clear hK K
                (first | refine mixsq rfl rfl 0 (by decide +kernel) ?_ (fun w' hw' => Or.inl ?_) (fun K hK => ?_) | refine mixsq rfl rfl 1 (by decide +kernel) ?_ (fun w' hw' => Or.inl ?_) (fun K hK => ?_) | refine mixsq rfl rfl 2 (by decide +kernel) ?_ (fun w' hw' => Or.inl ?_) (fun K hK => ?_) | refine mixsq rfl rfl 3 (by decide +kernel) ?_ (fun w' hw' => Or.inl ?_) (fun K hK => ?_)); rotate_left; (focus (have hc : C w' := hw'; go_simp; rfl)); go_simp; refine hK _ ?_; clear hK K
                (first | refine mixsq rfl rfl 0 (by decide +kernel) ?_ (fun w' hw' => Or.inl ?_) (fun K hK => ?_) | refine mixsq rfl rfl 1 (by decide +kernel) ?_ (fun w' hw' => Or.inl ?_) (fun K hK => ?_) | refine mixsq rfl rfl 2 (by decide +kernel) ?_ (fun w' hw' => Or.inl ?_) (fun K hK => ?_) | refine mixsq rfl rfl 3 (by decide +kernel) ?_ (fun w' hw' => Or.inl ?_) (fun K hK => ?_)); rotate_left; (focus (have hc : C w' := hw'; go_simp; rfl)); go_simp; refine hK _ ?_; clear hK K
                (first | refine mixsq_yes rfl (by first | rfl | kernel_rfl) 0 (by decide +kernel) ?_ (fun w' hw' => Or.inl ?_) (fun K hK => ?_) | refine mixsq_yes rfl (by first | rfl | kernel_rfl) 1 (by decide +kernel) ?_ (fun w' hw' => Or.inl ?_) (fun K hK => ?_) | refine mixsq_yes rfl (by first | rfl | kernel_rfl) 2 (by decide +kernel) ?_ (fun w' hw' => Or.inl ?_) (fun K hK => ?_) | refine mixsq_yes rfl (by first | rfl | kernel_rfl) 3 (by decide +kernel) ?_ (fun w' hw' => Or.inl ?_) (fun K hK => ?_)); rotate_left; (focus (have hc : C w' := hw'; go_simp; rfl)); go_simp; refine hK _ ?_; clear hK K
                (first | refine mixsq_yes rfl (by first | rfl | kernel_rfl) 0 (by decide +kernel) ?_ (fun w' hw' => Or.inl ?_) (fun K hK => ?_) | refine mixsq_yes rfl (by first | rfl | kernel_rfl) 1 (by decide +kernel) ?_ (fun w' hw' => Or.inl ?_) (fun K hK => ?_) | refine mixsq_yes rfl (by first | rfl | kernel_rfl) 2 (by decide +kernel) ?_ (fun w' hw' => Or.inl ?_) (fun K hK => ?_) | refine mixsq_yes rfl (by first | rfl | kernel_rfl) 3 (by decide +kernel) ?_ (fun w' hw' => Or.inl ?_) (fun K hK => ?_)); rotate_left; (focus (have hc : C w' := hw'; have c2 := hCs.out w' hc; go_simp; rfl)); go_simp; refine hK _ ?_; clear hK K
                refine mixsl_yes rfl (by first | rfl | kernel_rfl) (fun K hK => ?_)
                go_simp
                refine (HM.out _).mono ?_
                rintro e w10 ⟨rfl, rfl⟩
                refine hK C _ _ (fun _ => ⟨hC0, fun _ => hC0⟩) ?_
                clear hK K
                (first | refine mixsq_yes rfl (by first | rfl | kernel_rfl) 0 (by decide +kernel) ?_ (fun w' hw' => Or.inl ?_) (fun K hK => ?_) | refine mixsq_yes rfl (by first | rfl | kernel_rfl) 1 (by decide +kernel) ?_ (fun w' hw' => Or.inl ?_) (fun K hK => ?_) | refine mixsq_yes rfl (by first | rfl | kernel_rfl) 2 (by decide +kernel) ?_ (fun w' hw' => Or.inl ?_) (fun K hK => ?_) | refine mixsq_yes rfl (by first | rfl | kernel_rfl) 3 (by decide +kernel) ?_ (fun w' hw' => Or.inl ?_) (fun K hK => ?_)); rotate_left; (focus (have hc : C w' := hw'; go_simp; rfl)); go_simp; refine hK _ ?_; clear hK K
                (first | refine mixsq rfl rfl 0 (by decide +kernel) ?_ (fun w' hw' => Or.inl ?_) (fun K hK => ?_) | refine mixsq rfl rfl 1 (by decide +kernel) ?_ (fun w' hw' => Or.inl ?_) (fun K hK => ?_) | refine mixsq rfl rfl 2 (by decide +kernel) ?_ (fun w' hw' => Or.inl ?_) (fun K hK => ?_) | refine mixsq rfl rfl 3 (by decide +kernel) ?_ (fun w' hw' => Or.inl ?_) (fun K hK => ?_)); rotate_left; (focus (have hc : C w' := hw'; go_simp; rfl)); go_simp; refine hK _ ?_; clear hK K
                (first | refine mixsq rfl rfl 0 (by decide +kernel) ?_ (fun w' hw' => Or.inl ?_) (fun K hK => ?_) | refine mixsq rfl rfl 1 (by decide +kernel) ?_ (fun w' hw' => Or.inl ?_) (fun K hK => ?_) | refine mixsq rfl rfl 2 (by decide +kernel) ?_ (fun w' hw' => Or.inl ?_) (fun K hK => ?_) | refine mixsq rfl rfl 3 (by decide +kernel) ?_ (fun w' hw' => Or.inl ?_) (fun K hK => ?_)); rotate_left; (focus (have hc : C w' := hw'; go_simp; rfl)); go_simp; refine hK _ ?_; clear hK K
                (first | refine mixsq_yes rfl (by first | rfl | kernel_rfl) 0 (by decide +kernel) (.agg N.cells) (fun w' hw' => Or.inl (exec_load rfl rfl (hCl.out w' hw'))) (fun K hK => ?_) | refine mixsq_yes rfl (by first | rfl | kernel_rfl) 1 (by decide +kernel) (.agg N.cells) (fun w' hw' => Or.inl (exec_load rfl rfl (hCl.out w' hw'))) (fun K hK => ?_) | refine mixsq_yes rfl (by first | rfl | kernel_rfl) 2 (by decide +kernel) (.agg N.cells) (fun w' hw' => Or.inl (exec_load rfl rfl (hCl.out w' hw'))) (fun K hK => ?_) | refine mixsq_yes rfl (by first | rfl | kernel_rfl) 3 (by decide +kernel) (.agg N.cells) (fun w' hw' => Or.inl (exec_load rfl rfl (hCl.out w' hw'))) (fun K hK => ?_)); go_simp; refine hK _ ?_; clear hK K
                refine mixsl_yes rfl (by first | rfl | kernel_rfl) (fun K hK => ?_)
                go_simp
                refine (hE.out _).mono ?_
                rintro e w11 ⟨r11, rfl, ho11, hB11, _⟩
                have hC1 : C w11 := hCb.out _ _ hC0 hB11
                refine hK C _ _ (fun _ => ⟨hC1, ext_all (fun _ => hC1) hC1⟩) ?_
                clear hK K
                (first | refine mixsq_yes rfl (by first | rfl | kernel_rfl) 0 (by decide +kernel) ?_ (fun w' hw' => Or.inl ?_) (fun K hK => ?_) | refine mixsq_yes rfl (by first | rfl | kernel_rfl) 1 (by decide +kernel) ?_ (fun w' hw' => Or.inl ?_) (fun K hK => ?_) | refine mixsq_yes rfl (by first | rfl | kernel_rfl) 2 (by decide +kernel) ?_ (fun w' hw' => Or.inl ?_) (fun K hK => ?_) | refine mixsq_yes rfl (by first | rfl | kernel_rfl) 3 (by decide +kernel) ?_ (fun w' hw' => Or.inl ?_) (fun K hK => ?_)); rotate_left; (focus (have hc : C w' := hw'; go_simp; rfl)); go_simp; refine hK _ ?_; clear hK K
                refine mixsl_yes rfl (by first | rfl | kernel_rfl) (fun K hK => ?_)
                go_simp
                refine (hQ.out _ _ (Rd.of_own ho11) (hCx.out _ hC1)).mono ?_
                rintro e w12 ⟨rfl, rfl⟩
                refine hK C _ _ (fun _ => ⟨hC1, ext_all (ext_all (fun _ => hC1) hC1) hC1⟩) ?_
                clear hK K
                (first | refine mixsq_yes rfl (by first | rfl | kernel_rfl) 0 (by decide +kernel) ?_ (fun w' hw' => Or.inl ?_) (fun K hK => ?_) | refine mixsq_yes rfl (by first | rfl | kernel_rfl) 1 (by decide +kernel) ?_ (fun w' hw' => Or.inl ?_) (fun K hK => ?_) | refine mixsq_yes rfl (by first | rfl | kernel_rfl) 2 (by decide +kernel) ?_ (fun w' hw' => Or.inl ?_) (fun K hK => ?_) | refine mixsq_yes rfl (by first | rfl | kernel_rfl) 3 (by decide +kernel) ?_ (fun w' hw' => Or.inl ?_) (fun K hK => ?_)); rotate_left; (focus (have hc : C w' := hw'; go_simp; rfl)); go_simp; refine hK _ ?_; clear hK K
                (first | refine mixsq rfl rfl 0 (by decide +kernel) ?_ (fun w' hw' => Or.inl ?_) (fun K hK => ?_) | refine mixsq rfl rfl 1 (by decide +kernel) ?_ (fun w' hw' => Or.inl ?_) (fun K hK => ?_) | refine mixsq rfl rfl 2 (by decide +kernel) ?_ (fun w' hw' => Or.inl ?_) (fun K hK => ?_) | refine mixsq rfl rfl 3 (by decide +kernel) ?_ (fun w' hw' => Or.inl ?_) (fun K hK => ?_)); rotate_left; (focus (have hc : C w' := hw'; go_simp; rfl)); go_simp; refine hK _ ?_; clear hK K
                refine mixs_nil ?_
                obtain ⟨k1, k2, k3⟩ := hCr.out _ hC1
                have k1 := Lib.hid k1
                have k2 := Lib.hid k2
                have k3 := Lib.hid k3
                clear hE hQ hC0
                cases bq
                rotate_left
                · have g3 : encP N = bs := by simpa using hbq.out
                  have hz2 : Hid (decP bs = (N, 0)) := by
                    show _ = _
                    rw [hz.out, if_neg]
                    rintro (h | h | h)
                    · exact g1 h
                    · exact g2 h
                    · exact h g3
                  have hld := hCl.out _ hC1
                  clear g3
                  go_wp2_with (with_reducible refine stop_load 65 ?_)
                  refine Stop.mk (wpList_load_cells rfl rfl rfl hld ?_)
                  clear hld
                  go_wp2_with (with_reducible refine stop_store 65 ?_)
                  refine Stop.mk (wpList_store_row rfl 65 _ _ rfl w.heap.size N.cells rfl rfl 65 zeroNd.cells k1.out (by kernel_rfl) rfl (by kernel_rfl) ?_)
                  have hR2 : Blk (World.setRow w11 w.heap.size N.cells) w.heap.size 65 N.cells := setRow_heap _ _ _ _ _ _ k1.out
                  have hB2 : Below w.heap.size w (World.setRow w11 w.heap.size N.cells) := below_setRow k2.out (Nat.le_refl _) _
                  generalize World.setRow w11 w.heap.size N.cells = w2 at *
                  go_wp2
                  (try simp only [Exit.inBlock, Exit.then])
                  refine bodyPost_ret (results_cell_tmp (ty := 65) rfl rfl (loadVar_blk hR2 Try.underlying65 rfl (by kernel_rfl))) rfl ?_
                  rw [hz2.out]
                  exact ⟨rfl, hB2⟩
                · have g3 : encP N ≠ bs := by simpa using hbq.out
                  have hz2 : Hid (decP bs = (zeroNd, 3)) := by show _ = _; rw [hz.out, if_pos (.inr (.inr g3))]
                  clear g3
                  go_wp2_with (with_reducible refine stop_store 65 ?_)
                  refine Stop.mk (wpList_store_row rfl 65 _ _ rfl w.heap.size zeroNd.cells rfl rfl 65 zeroNd.cells k1.out (by kernel_rfl) rfl (by kernel_rfl) ?_)
                  have hR2 : Blk (World.setRow w11 w.heap.size zeroNd.cells) w.heap.size 65 zeroNd.cells := setRow_heap _ _ _ _ _ _ k1.out
                  have hB2 : Below w.heap.size w (World.setRow w11 w.heap.size zeroNd.cells) := below_setRow k2.out (Nat.le_refl _) _
                  generalize World.setRow w11 w.heap.size zeroNd.cells = w2 at *
                  go_wp2
                  (try simp only [Exit.inBlock, Exit.then])
                  refine bodyPost_ret (results_cell_tmp (ty := 65) rfl rfl (loadVar_blk hR2 Try.underlying65 rfl (by kernel_rfl))) rfl ?_
                  rw [hz2.out]
                  exact ⟨rfl, hB2⟩
      · have hz2 : Hid (decP bs = (zeroNd, oe)) := by show _ = _; rw [hz.out, if_pos he]
        have heb : (oe != 0) = true := by simpa using he
        obtain ⟨A1, c1, rfl⟩ := ho1.shape
        have hR1h := Lib.hid hR1
        have hB1h := Lib.hid hB1'
        clear he
        go_wp2_with (with_reducible refine stop_store 65 ?_)
        refine Stop.mk (wpList_store_row rfl 65 _ _ rfl w.heap.size zeroNd.cells rfl rfl 65 zeroNd.cells hR1h.out (by kernel_rfl) rfl (by kernel_rfl) ?_)
        have hR2 : Blk (w1.setRow w.heap.size zeroNd.cells) w.heap.size 65 zeroNd.cells := setRow_heap _ _ _ _ _ _ hR1h.out
        have hB2 : Below w.heap.size w (w1.setRow w.heap.size zeroNd.cells) := below_setRow hB1h.out (Nat.le_refl _) _
        generalize w1.setRow w.heap.size zeroNd.cells = w2 at *
        go_wp2
        (try simp only [Exit.inBlock, Exit.then])
        refine bodyPost_ret (results_cell_tmp (ty := 65) rfl rfl (loadVar_blk hR2 Try.underlying65 rfl (by kernel_rfl))) rfl ?_
        rw [hz2.out]
        exact ⟨rfl, hB2⟩
end Go.Proofs.Ytdlfaoggjimbpaa
