/- The log: steps, one behind the other. -/
import Derived.Test.YtefbmbfhhhjgkaaWd
namespace Go.Proofs.Ytefbmbfhhhjgkaa
open Go.RowKit
/-- Function value v does f to the disk at g, in each world that comes of w0 by turning blocks of S0. -/
def StepOK (w0 : World) (S0 : Nat → Prop) (g N B : Nat) (v : Value) (f : DW) : Prop := ∃ k fst cap, v = .func (.func k) fst cap ∧ (∀ W, (callFunc k (fst ++ cap)).run Try.prog W = .ok (.enter k (fst ++ cap)) W) ∧ ∀ W d S F, Chg S0 w0 W → DO W g d S F → (∀ k, S k → S0 k ∨ w0.heap.size ≤ k) → Fit N B d →
  Calls Try.prog k (fst ++ cap) W fun e W' => e = .returned (.int .i64 (f d).1) ∧ WroteO W S F g (f d).2 W'
theorem seqW_step {f : DW} {r : List DW} {d : Dk} (h : (f d).1 = 0) : seqW (f :: r) d = seqW r (f d).2 := by rw [seqW, if_pos h]
theorem seqW_stop {f : DW} {r : List DW} {d : Dk} (h : (f d).1 ≠ 0) : seqW (f :: r) d = f d := by rw [seqW, if_neg h]
set_option maxRecDepth 10000 in
set_option maxHeartbeats 4000000 in
theorem all_calls (w : World) (x : Value) (vs : List Value) (hx : Rd w x vs) {g N M B cc : Nat} {d : Dk} {S F : Nat → Prop} (hd : DO w g d S F) (hxS : ∀ k, x.ownBlock = some k → ¬ S k) (fs : List DW) (hlen : fs.length = vs.length)
    (hst : ∀ i (h : i < vs.length) (h' : i < fs.length), StepOK w S g N B vs[i] fs[i]) (hgr : ∀ f ∈ fs, Gr N cc f) (hf : Fit N M d) (hM : M + fs.length * cc ≤ B) (hn : vs.length ≤ 1000) :
    Calls Try.prog 54 #[x] w fun e w' => e = .returned (.int .i64 (seqW fs d).1) ∧ WroteO w S F g (seqW fs d).2 w' := by
  obtain ⟨A, c, rfl, hl⟩ := hx.shapeV
  have hcell := Lib.hid (fun (W : World) (hc : Chg S w W) (k : Nat) (hk : k < vs.length) => (hx.chg hc hxS).cell hk)
  have hst := Lib.hid hst
  have hgr := Lib.hid hgr
  obtain ⟨n, hnn⟩ : ∃ n, Hid (vs.length = n) := ⟨_, Lib.hid rfl⟩
  obtain ⟨out, ho⟩ : ∃ out, Hid (seqW fs d = out) := ⟨_, Lib.hid rfl⟩
  have hfl : Hid (fs.length = n) := by show _ = _; rw [hlen, hnn.out]
  rw [hnn.out] at hn ⊢
  rw [ho.out]
  have h0 : Hid (DO w g d S F ∧ Fit N M d) := ⟨hd, hf⟩
  have hM := Lib.hid hM
  clear hx hd hxS hf hlen
  go_enter Try.func54, Try.ntmps54
  go_wp2
  go_loopw [8] (fun iv wr => ∃ (k : Nat) (dk : Dk) (Sk Fk : Nat → Prop), k ≤ n ∧ iv = .int .i64 (k : Int) ∧ Hid (DO wr g dk Sk Fk) ∧ Hid (Fit N (M + k * cc) dk) ∧ Hid (Chg S w wr) ∧ Hid (∀ j, Sk j → S j ∨ w.heap.size ≤ j) ∧ Hid (∀ j, Fk j → F j ∨ w.heap.size ≤ j) ∧ Hid (seqW (fs.drop k) dk = out)) (fun iv _ => n - (RowKit.intOf iv).toNat)
  case atStart => exact ⟨0, d, S, F, Nat.zero_le _, rfl, h0.out.1, by show Fit _ _ _; rw [Nat.zero_mul]; exact h0.out.2, Chg.refl _ _, fun _ h => .inl h, fun _ h => .inl h, ho⟩
  case round =>
    obtain ⟨k, dk, Sk, Fk, hk, rfl, hD, hF, hC, hS, hFF, hO⟩ := hrel
    clear h0
    by_cases hkn : k < n
    · have hk1 : k < vs.length := by rw [hnn.out]; exact hkn
      have hk2 : k < fs.length := by rw [hfl.out]; exact hkn
      obtain ⟨ad, c', e, hcl⟩ := hcell.out wr hC.out k hk1
      injection e with e1 _ e3
      subst e1
      subst e3
      have hmul : k * cc + cc ≤ fs.length * cc := by
        have := Nat.mul_le_mul_right cc (show k + 1 ≤ fs.length from hk2)
        rwa [Nat.succ_mul] at this
      have hmul := Lib.hid hmul
      obtain ⟨kk, fst, cap, hv, hen, hcalls⟩ := hst.out k hk1 hk2
      have hrun := hen wr
      clear hen
      have hCk := Lib.hid (hcalls wr dk Sk Fk hC.out hD.out hS.out (hF.out.mono (by have := hM.out; have := hmul.out; omega)))
      have hFn := Lib.hid (hgr.out (fs[k]'hk2) (List.getElem_mem hk2) _ _ hF.out)
      have hdr : Hid (seqW (fs[k]'hk2 :: fs.drop (k + 1)) dk = out) := by
        show _ = _
        rw [← hO.out]
        congr 1
        rw [List.drop_eq_getElem_cons hk2]
      rw [hv] at hcl
      generalize fs[k]'hk2 = f at *
      clear hcalls hv hD hF hO hk1 hk2
      go_wp2_with fail
      refine hCk.out.mono ?_
      rintro e w2 ⟨rfl, Sn, Fn, hDn, hCn, hSn, hFFn⟩
      have hC2 := hC.out.then_ hCn (fun j hj h => (hS.out j h).resolve_right (by omega))
      have hS2 : Hid (∀ j, Sn j → S j ∨ w.heap.size ≤ j) := fun j hj => by
        rcases hSn j hj with h | h
        · exact hS.out j h
        · exact .inr (Nat.le_trans hC.out.size h)
      have hF2 : Hid (∀ j, Fn j → F j ∨ w.heap.size ≤ j) := fun j hj => by
        rcases hFFn j hj with h | h
        · exact hFF.out j h
        · exact .inr (Nat.le_trans hC.out.size h)
      have hC2 := Lib.hid hC2
      have hDn := Lib.hid hDn
      clear hCk hCn hSn hFFn hC hS hFF hcl hrun
      obtain ⟨r, hr⟩ : ∃ r, Hid ((f dk).1 = r) := ⟨_, Lib.hid rfl⟩
      obtain ⟨dn, hdn⟩ : ∃ r, Hid ((f dk).2 = r) := ⟨_, Lib.hid rfl⟩
      rw [hr.out]
      rw [hdn.out] at hDn hFn
      by_cases hr0 : r = 0
      · subst hr0
        have hO2 : Hid (seqW (fs.drop (k + 1)) dn = out) := by
          show _ = _
          rw [← hdr.out, seqW_step hr.out, hdn.out]
        clear hdr hr hdn
        go_wp2
        go_roundw
        case rel => exact ⟨k + 1, dn, Sn, Fn, by omega, by go_num, hDn, by show Fit _ _ _; have := hFn.out; rwa [Nat.succ_mul, ← Nat.add_assoc], hC2, hS2, hF2, hO2⟩
        case measure => simp [RowKit.intOf]; omega
      · have hfin : Hid (out.1 = r ∧ WroteO w S F g out.2 w2) := by
          have h1 : out = f dk := by rw [← hdr.out]; exact seqW_stop (by rw [hr.out]; exact hr0)
          rw [h1]
          exact ⟨hr.out, _, _, by rw [hdn.out]; exact hDn.out, hC2.out, hS2.out, hF2.out⟩
        clear hdr hr hdn
        go_wp2
        go_ret
        exact ⟨by rw [hfin.out.1]; rfl, hfin.out.2⟩
    · obtain rfl : k = n := by omega
      have hfin : Hid (out.1 = 0 ∧ WroteO w S F g out.2 wr) := by
        have h1 := hO.out
        rw [List.drop_eq_nil_of_le (by rw [hfl.out]; exact Nat.le_refl _)] at h1
        rw [← h1]
        exact ⟨rfl, _, _, hD.out, hC.out, hS.out, hFF.out⟩
      clear hO hD
      go_wp2
      go_ret
      exact ⟨by rw [hfin.out.1]; rfl, hfin.out.2⟩
end Go.Proofs.Ytefbmbfhhhjgkaa
