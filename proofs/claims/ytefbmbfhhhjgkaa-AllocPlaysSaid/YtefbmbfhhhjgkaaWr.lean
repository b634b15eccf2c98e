import Derived.Test.YtefbmbfhhhjgkaaWc
import Derived.Test.YtefbmbfhhhjgkaaNum
namespace Go.Proofs.Ytefbmbfhhhjgkaa
open Go.RowKit

/-- A Reader: block g holds the slice b and the fault; b reads as rs. -/
structure Rdr (w : World) (g : Nat) (b : Value) (rs : List UInt8) (err : Int) : Prop where
  blk : Blk w g 118 #[b, .int .i64 err]
  rd : Rd w b (bvs rs)
  ne : b.ownBlock ≠ some g

def takeP (rs : List UInt8) (err n : Int) : List UInt8 × List UInt8 × Int :=
  if err ≠ 0 then ([], rs, err) else if n < 0 then ([], rs, 1) else if (rs.length : Int) < n then ([], rs, 2) else (rs.take n.toNat, rs.drop n.toNat, err)

def TakeOut (w : World) (g : Nat) (b : Value) (o : List UInt8 × List UInt8 × Int) (e : Ending) (w' : World) : Prop :=
  ∃ out b', e = .returned out ∧ Rd w' out (bvs o.1) ∧ Rdr w' g b' o.2.1 o.2.2 ∧ Chg (fun k => k = g) w w' ∧ (out.ownBlock = none ∨ out.ownBlock = b.ownBlock) ∧ b'.ownBlock = b.ownBlock

theorem Rd.shape1 {w : World} {x : Value} {us : List Value} (h : Rd w x us) : ∃ A c, x = .slice A us.length c ∧ us.length ≤ c := by
  obtain ⟨A, c, rfl, hl, _⟩ := h
  exact ⟨A, c, rfl, hl⟩

set_option maxRecDepth 10000 in
set_option maxHeartbeats 400000 in
theorem take_calls (w : World) (g : Nat) (b : Value) (rs : List UInt8) (err n : Int) (hR : Rdr w g b rs err) (hl : rs.length ≤ 1000000000) :
    Calls Try.prog 92 #[.pointer (some ⟨g, 0, none⟩), .int .i64 n] w (TakeOut w g b (takeP rs err n)) := by
  have c0 := hR.blk.cell 0
  have c1 := hR.blk.cell 1
  have f0 := hR.blk.frozen 0
  have f1 := hR.blk.frozen 1
  have seterr : ∀ k, TakeOut w g b ([], rs, k) (.returned (.slice none 0 0)) (w.setCell ⟨g, 1, none⟩ (.int .i64 k)) := fun k =>
    ⟨_, b, rfl, Rd.nil _ none 0, ⟨hR.blk.set_ 1 _, hR.rd.far (by exact hR.ne) _, hR.ne⟩, Chg.setCell (Chg.refl (fun k => k = g) w) (p := ⟨g, 1, none⟩) (fun _ => rfl) _, .inl rfl, rfl⟩
  by_cases he : err = 0
  · subst he
    by_cases hn : n < 0
    · have ht : takeP rs 0 n = ([], rs, 1) := by simp [takeP, hn]
      rw [ht]
      clear ht
      go_enter Try.func92, Try.ntmps92
      go_wp2
      go_ret
      exact seterr 1
    · obtain ⟨A, c, rfl⟩ := hR.rd.shape8
      obtain ⟨m, rfl⟩ := Int.eq_ofNat_of_zero_le (show 0 ≤ n by omega)
      by_cases hm : rs.length < m
      · have ht : takeP rs 0 (m : Int) = ([], rs, 2) := by simp [takeP, hn, hm]
        rw [ht]
        clear ht
        go_enter Try.func92, Try.ntmps92
        go_wp2
        go_ret
        exact seterr 2
      · have ht : takeP rs 0 (m : Int) = (rs.take m, rs.drop m, 0) := by simp [takeP, hn, hm]
        rw [ht]
        clear ht
        have hm' : m ≤ rs.length := by omega
        have hmc : rs.length ≤ c := by
          obtain ⟨A', c', e, hl, _⟩ := hR.rd
          injection e with _ _ e3
          rw [e3, ← bvs_length rs]; exact hl
        have hmc' : m ≤ c := by omega
        have r1 := rd_take hR.rd hm'
        have r2 := rd_drop hR.rd hm'
        have e2 := own_drop A c m (rs.length - m) (c - m) rs.length c
        by_cases hcm : c = m
        · rw [if_pos hcm] at r2 e2
          subst hcm
          rw [Nat.sub_self, show rs.length - c = 0 from by omega] at r2 e2
          have R1 := Lib.hid r1
          have R2 := Lib.hid r2
          have E2 := Lib.hid e2
          have E1 := Lib.hid (own_len A c c rs.length c)
          clear r1 r2 e2
          go_enter Try.func92, Try.ntmps92
          go_wp2
          go_ret
          refine ⟨Value.slice A c c, _, rfl, R1.out.far (by rw [E1.out]; exact hR.ne) _, ⟨hR.blk.set_ 0 _, R2.out.far (by rw [E2.out]; exact hR.ne) _, by rw [E2.out]; exact hR.ne⟩, (Chg.refl (fun k => k = g) w).setCell (p := ⟨g, 0, none⟩) (fun _ => rfl) _, .inr E1.out, E2.out⟩
        · rw [if_neg hcm] at r2 e2
          have R1 := Lib.hid r1
          have R2 := Lib.hid r2
          have E2 := Lib.hid e2
          have E1 := Lib.hid (own_len A m m rs.length c)
          clear r1 r2 e2
          go_enter Try.func92, Try.ntmps92
          go_wp2
          go_ret
          refine ⟨Value.slice A m m, _, rfl, R1.out.far (by rw [E1.out]; exact hR.ne) _, ⟨hR.blk.set_ 0 _, R2.out.far (by rw [E2.out]; exact hR.ne) _, by rw [E2.out]; exact hR.ne⟩, (Chg.refl (fun k => k = g) w).setCell (p := ⟨g, 0, none⟩) (fun _ => rfl) _, .inr E1.out, E2.out⟩
  · have ht : takeP rs err n = ([], rs, err) := by simp [takeP, he]
    rw [ht]
    clear ht
    have hb : (err != 0) = true := by simpa using he
    go_enter Try.func92, Try.ntmps92
    go_wp2
    go_ret
    exact ⟨_, b, rfl, Rd.nil _ none 0, hR, Chg.refl _ w, .inl rfl, rfl⟩

theorem takeP_len (rs : List UInt8) (err n : Int) (m : Nat) (h : n ≤ m) : (takeP rs err n).1.length ≤ m := by
  unfold takeP
  (repeat' split) <;> simp <;> omega
def Rset (g : Nat) : Nat → Prop := fun k => k = g
def NumOut (w : World) (g : Nat) (b : Value) (o : List UInt8 × List UInt8 × Int) (e : Ending) (w' : World) : Prop :=
  ∃ b', e = .returned (.int .i64 (numP o.1)) ∧ Rdr w' g b' o.2.1 o.2.2 ∧ Chg (fun k => k = g) w w' ∧ b'.ownBlock = b.ownBlock
set_option maxRecDepth 10000 in
set_option maxHeartbeats 400000 in
theorem number_calls (w : World) (g : Nat) (b : Value) (rs : List UInt8) (err : Int) (n : Nat) (hR : Rdr w g b rs err) (hl : rs.length ≤ 1000000000) (hn : n ≤ 4) :
    Calls Try.prog 93 #[.pointer (some ⟨g, 0, none⟩), .int .i64 n] w (NumOut w g b (takeP rs err n)) := by
  go_enter Try.func93, Try.ntmps93
  go_wp2_with fail
  refine (take_calls w g b rs err n hR hl).mono ?_
  rintro e w1 ⟨out, b', rfl, h1, h2, h3, h4, h5⟩
  have hly : (takeP rs err n).1.length ≤ 4 := takeP_len rs err n 4 (by omega)
  generalize hq : takeP rs err n = q at *
  clear hq
  obtain ⟨ys, rs', err'⟩ := q
  simp only at *
  have hcell := fun (k : Nat) (hk : k < ys.length) => h1.at8 hk
  obtain ⟨A, c, rfl⟩ := h1.shape8
  have HC := Lib.hid hcell
  clear hcell
  go_wp2
  go_loop [5, 12] (fun o i => ∃ k : Nat, k ≤ ys.length ∧ i = .int .i64 k ∧ o = .int .i64 (numP (ys.take k))) (fun _ i => ys.length - (intOf i).toNat)
  case atStart => exact ⟨0, Nat.zero_le _, rfl, rfl⟩
  case round =>
    obtain ⟨k, hk, rfl, rfl⟩ := hrel
    by_cases hlt : k < ys.length
    · obtain ⟨ad, c', e, hc⟩ := HC.out k hlt
      injection e with e1 e2 e3
      subst e1
      unfold bv at hc
      have hk4 : k < 4 := by omega
      go_wp2
      go_round
      case rel =>
        refine ⟨k + 1, by omega, by go_num, ?_⟩
        rw [num_step ys hlt hk4]
      case measure => simp [intOf]; omega
    · have e : ys.take k = ys := List.take_of_length_le (by omega)
      rw [e]
      go_wp2
      go_ret
      exact ⟨b', rfl, h2, h3, h5⟩

set_option maxRecDepth 10000 in
set_option maxHeartbeats 400000 in
theorem RU16_calls (w : World) (g : Nat) (b : Value) (rs : List UInt8) (err : Int) (hR : Rdr w g b rs err) (hl : rs.length ≤ 1000000000) :
    Calls Try.prog 87 #[.pointer (some ⟨g, 0, none⟩)] w (NumOut w g b (takeP rs err 2)) := by
  go_enter Try.func87, Try.ntmps87
  go_wp2_with fail
  refine (number_calls w g b rs err 2 hR hl (by omega)).mono ?_
  rintro e w1 ⟨b', rfl, h2, h3, h5⟩
  go_wp2
  go_ret
  exact ⟨b', rfl, h2, h3, h5⟩
/-- What a method leaves that takes bytes: a copy of them. -/
def FixOut (w : World) (g : Nat) (b : Value) (o : List UInt8 × List UInt8 × Int) (e : Ending) (w' : World) : Prop :=
  ∃ out b', e = .returned out ∧ Own8 w' out o.1 ∧ Rdr w' g b' o.2.1 o.2.2 ∧ Chg (fun k => k = g) w w' ∧ (∀ k, out.ownBlock = some k → w.heap.size ≤ k) ∧ b'.ownBlock = b.ownBlock

theorem Rdr.below {w w' : World} {g : Nat} {b : Value} {rs : List UInt8} {err : Int} (h : Rdr w g b rs err) (hb : Below w.heap.size w w') : Rdr w' g b rs err :=
  ⟨h.blk.chg (Chg.of_below hb) (S := fun _ => False) id, h.rd.below hb, h.ne⟩
theorem Rdr.chg {S : Nat → Prop} {w w' : World} {g : Nat} {b : Value} {rs : List UInt8} {err : Int} (h : Rdr w g b rs err) (hb : Chg S w w') (hg : ¬ S g) (hn : ∀ k, b.ownBlock = some k → ¬ S k) : Rdr w' g b rs err :=
  ⟨h.blk.chg hb hg, h.rd.chg hb hn, h.ne⟩

set_option maxRecDepth 10000 in
set_option maxHeartbeats 400000 in
theorem RFixed_calls (w : World) (g : Nat) (b : Value) (rs : List UInt8) (err n : Int) (hR : Rdr w g b rs err) (hl : rs.length ≤ 1000000000) :
    Calls Try.prog 86 #[.pointer (some ⟨g, 0, none⟩), .int .i64 n] w (FixOut w g b (takeP rs err n)) := by
  have hlen : (takeP rs err n).1.length ≤ 1000000000 := by
    unfold takeP
    (repeat' split) <;> simp
    omega
  go_enter Try.func86, Try.ntmps86
  go_wp2_with fail
  refine (take_calls w g b rs err n hR hl).mono ?_
  rintro e w1 ⟨out, b', rfl, h1, h2, h3, h4, h5⟩
  go_wp2_with fail
  refine (Clone8_calls w1 out _ h1 hlen).mono ?_
  rintro e w2 ⟨r, rfl, k1, k2, k3⟩
  go_wp2
  go_ret
  exact ⟨r, b', rfl, k1, h2.below k2, h3.then_ (Chg.of_below k2) (fun i hi hf => by have := h3.size; first | exact hf | omega), fun k hk => Nat.le_trans h3.size (k3 k hk), h5⟩

def bytesP (rs : List UInt8) (err most : Int) : List UInt8 × List UInt8 × Int :=
  takeP (takeP rs err 4).2.1 (if (takeP rs err 4).2.2 = 0 ∧ most < (numP (takeP rs err 4).1 : Int) then 5 else (takeP rs err 4).2.2) (numP (takeP rs err 4).1)
def endP (rs : List UInt8) (err : Int) : Int := if err = 0 ∧ rs ≠ [] then 3 else err

theorem takeP_rest (rs : List UInt8) (err n : Int) : (takeP rs err n).2.1.length ≤ rs.length := by
  unfold takeP
  (repeat' split) <;> simp

theorem FixOut.then_ {w w1 w2 : World} {g : Nat} {b b1 : Value} {o : List UInt8 × List UInt8 × Int} {e : Ending} (h : Chg (fun k => k = g) w w1) (hb : b1.ownBlock = b.ownBlock) (k : FixOut w1 g b1 o e w2) : FixOut w g b o e w2 := by
  obtain ⟨out, b', h1, h2, h3, h4, h5, h6⟩ := k
  exact ⟨out, b', h1, h2, h3, h.trans h4, fun i hi => Nat.le_trans h.size (h5 i hi), h6.trans hb⟩

theorem numP_take4 (rs : List UInt8) (err : Int) : numP (takeP rs err 4).1 < 4294967296 :=
  Nat.lt_of_lt_of_le (numP_lt _) (Nat.le_trans (Nat.pow_le_pow_right (by omega) (takeP_len rs err 4 4 (by omega))) (by decide))

def RdrNew (w : World) (bs : List UInt8) (e : Ending) (w' : World) : Prop := ∃ g b, e = .returned (.pointer (some ⟨g, 0, none⟩)) ∧ w.heap.size ≤ g ∧ Rdr w' g b bs 0 ∧ Below w.heap.size w w' ∧ (∀ k, b.ownBlock = some k → w.heap.size ≤ k)
set_option maxRecDepth 10000 in
set_option maxHeartbeats 400000 in
theorem NewReader_calls (w : World) (x : Value) (bs : List UInt8) (hx : Rd w x (bvs bs)) (hl : bs.length ≤ 1000000000) :
    Calls Try.prog 85 #[x] w (RdrNew w bs) := by
  obtain ⟨A, c, rfl⟩ := hx.shape8
  go_enter Try.func85, Try.ntmps85
  go_wp2_with fail
  refine (Clone8_calls w _ bs hx hl).mono ?_
  rintro e w1 ⟨r, rfl, k1, k2, k3⟩
  obtain ⟨A1, c1, rfl⟩ := k1.shape
  go_wp2
  go_ret
  refine ⟨_, _, rfl, k2.size, ⟨Blk.new _ _ _, (Rd.of_own k1).alloc _, fun e => ?_⟩, k2.alloc k2.size _, k3⟩
  have := k1.lt _ e
  omega
end Go.Proofs.Ytefbmbfhhhjgkaa
