/- WalPlays and WalCrashes, in plain words: a log that may be armed (PA), and the document's beside it (Tie). WalPlays and WalCrashes: a log that may be armed, its last transaction, and the document's log, in a caller's hands (PM). -/
import Derived.Test.YtlfbfmeppcicnaaWfo
import Derived.Test.YtlfbfmeppcicnaaWra
namespace Go.Proofs.Ytlfbfmeppcicnaa
open Go.RowKit
/-- A log of data V with power, perhaps armed. -/
structure PA (x : Lk) (V : Nat → List UInt8) : Prop where
  pq : Pq 135 V (fun k b => b = V k) x.d
  h0 : V 0 = headP []
  wl : ∀ n b, x.wt n = some b → n < 70 ∧ b.length = 512
  k63 : (ksW 70 x.wt).length ≤ 63
theorem PA.of_la {x : Lk} {V : Nat → List UInt8} (h : LA 135 x V) : PA x V := ⟨Pq.of_vw h.vw h.st, h.h0, h.wl, h.k63⟩
theorem PA.la {x : Lk} {V : Nat → List UInt8} (h : PA x V) : LA 135 ⟨onD (cutD x.d []), x.wt, x.pn, x.op⟩ V := ⟨(h.pq.cut_on []).1, (h.pq.cut_on []).2, h.h0, h.wl, h.k63⟩
theorem PA.val {x : Lk} {V : Nat → List UInt8} (h : PA x V) {n : Nat} (hn : n < 70) : lvalP x n = datP x V n := by
  unfold lvalP datP
  rw [h.pq.vw (65 + n) (by omega)]
theorem PA.d5 {x : Lk} {V : Nat → List UInt8} (h : PA x V) {n : Nat} (hn : n < 70) : (datP x V n).length = 512 := by
  unfold datP
  cases hx : x.wt n with
  | none => exact h.pq.b5 _ (by omega)
  | some b => exact (h.wl n b hx).2
theorem PA.readE {x : Lk} {V : Nat → List UInt8} (h : PA x V) (n : Int) : lreadE x n = if 0 ≤ n ∧ n < 70 then 0 else 1 := by
  unfold lreadE
  rw [h.pq.dl, h.pq.of]
  by_cases e : 0 ≤ n ∧ n < 70
  · rw [if_pos e, if_neg (by omega), if_neg (by decide)]
  · rw [if_neg e, if_pos (by omega)]
/-- What a Sync leaves. -/
def SyncTo (x : Lk) (V : Nat → List UInt8) (o : Int × Lk) : Prop :=
  (∃ d' V', o = (0, ⟨d', fun _ => none, 0, x.op⟩) ∧ PA ⟨d', fun _ => none, 0, x.op⟩ V' ∧ HomeOk 135 V' (datP x V)) ∨
  (o.1 = 6 ∧ Cq 135 (fun L => Rep 135 L (fun n => V (65 + n)) ∨ Rep 135 L (datP x V)) o.2.d)
theorem ksW_0 (N : Nat) : ksW N (fun _ => none) = [] := by
  unfold ksW
  rw [List.filter_eq_nil_iff.2 (by simp)]
theorem lsyncP_shape (x : Lk) (h : (lsyncP x).1 = 0) : ∃ d', lsyncP x = (0, ⟨d', fun _ => none, 0, x.op⟩) := by
  unfold lsyncP at h ⊢
  split at h
  · cases h
  · rename_i h1
    rw [if_neg h1]
    split at h
    · rename_i h2
      rw [if_pos h2]
      exact ⟨_, rfl⟩
    · rename_i h2
      rw [if_neg h2]
      split at h
      · rename_i h3
        rw [if_pos h3]
        exact ⟨_, rfl⟩
      · rename_i h3
        exact absurd h h3
theorem PA.lsync {x : Lk} {V : Nat → List UInt8} (h : PA x V) : SyncTo x V (lsyncP x) := by
  rcases lsyncP_tr h.la (by omega) h.pq with ⟨V', h1, h2, h3⟩ | ⟨h1, h2⟩
  · obtain ⟨d', e⟩ := lsyncP_shape x h1
    refine .inl ⟨d', V', e, ⟨?_, h3.1, fun n b e => (by cases e), by rw [ksW_0]; simp⟩, h3⟩
    have h2 : Pq 135 V' (fun k b => b = V' k) (lsyncP x).2.d := h2
    rw [e] at h2
    exact h2
  · exact .inr ⟨h1, h2⟩
/-- What Commit of an open one leaves. -/
def CommitTo (x : Lk) (V : Nat → List UInt8) (t : Tk) (o : Int × Lk × Tk) : Prop :=
  (fitsP 70 x t = true ∧ o = (0, ⟨x.d, mergeF x.wt t.m, x.pn + 1, false⟩, ⟨t.m, true⟩) ∧ PA ⟨x.d, mergeF x.wt t.m, x.pn + 1, false⟩ V) ∨
  (fitsP 70 x t = false ∧ ∃ d' V', o = (0, ⟨d', t.m, 1, false⟩, ⟨t.m, true⟩) ∧ PA ⟨d', t.m, 1, false⟩ V' ∧ HomeOk 135 V' (datP x V)) ∨
  (fitsP 70 x t = false ∧ o.1 = 6 ∧ o.2.2 = ⟨t.m, true⟩ ∧ Cq 135 (fun L => Rep 135 L (fun n => V (65 + n)) ∨ Rep 135 L (datP x V)) o.2.1.d)
theorem PA.commit {x : Lk} {V : Nat → List UInt8} (h : PA x V) {t : Tk} (ht : TOk 70 t) (ho : t.ov = false) : CommitTo x V t (commitP 70 x t) := by
  have hm : ∀ n b, mergeF x.wt t.m n = some b → n < 70 ∧ b.length = 512 := fun n b e => by
    unfold mergeF at e
    cases hx : t.m n with
    | some c =>
      rw [hx] at e
      injection e with e
      subst e
      exact ht.wl n c hx
    | none =>
      rw [hx] at e
      exact h.wl n b e
  unfold commitP
  rw [if_neg (show ¬ (t.ov = true) by rw [ho]; decide), if_neg (show ¬ (x.d.off = true) by rw [h.pq.of]; decide)]
  cases hf : fitsP 70 x t with
  | true =>
    have e0 : syncOr 70 x t = (0, x) := by unfold syncOr; rw [if_pos hf]
    rw [e0, if_neg (by simp)]
    refine .inl ⟨hf, rfl, ⟨h.pq, h.h0, hm, ?_⟩⟩
    show (ksW 70 (mergeF x.wt t.m)).length ≤ 63
    rw [ksW_merge]
    unfold fitsP at hf
    exact of_decide_eq_true hf
  | false =>
    have e0 : syncOr 70 x t = lsyncP x := by unfold syncOr; rw [if_neg (by rw [hf]; decide)]
    rw [e0]
    have hn : mergeF (fun _ => none) t.m = t.m := by
      funext k
      unfold mergeF
      cases t.m k <;> rfl
    rcases h.lsync with ⟨d', V', e, hp, hh⟩ | ⟨e, hc⟩
    · rw [e, if_neg (by simp)]
      refine .inr (.inl ⟨hf, d', V', ?_, ⟨hp.pq, hp.h0, ht.wl, ht.k63⟩, hh⟩)
      show (0, (⟨d', mergeF (fun _ => none) t.m, 0 + 1, false⟩ : Lk), _) = _
      rw [hn]
      rfl
    · rw [if_pos (by rw [e]; decide)]
      exact .inr (.inr ⟨hf, e, rfl, hc⟩)
/-- The document's log tells as this one; of its transaction, too. -/
structure Tie (x : Lk) (V : Nat → List UInt8) (ot : Option Tk) (r : Rl) : Prop where
  L : ∀ n, n < 70 → r.L.getD n [] = datP x V n
  D : ∀ n, n < 70 → r.D.getD n false = (x.wt n).isSome
  pn : r.pn = x.pn
  op : r.op = x.op
  tn : ot = none → x.op = false
  ts : ∀ t, ot = some t → t.ov = !x.op ∧ TOk 70 t ∧ (x.op = true → r.nw.length = 70 ∧ (∀ n, n < 70 → r.nw.getD n [] = (t.m n).getD []) ∧ r.wr = ((ksW 70 t.m).length : Int))
theorem getD_repl {α : Type} (n k : Nat) (a d : α) (h : k < n) : (List.replicate n a).getD k d = a := by
  rw [List.getD_eq_getElem?_getD, List.getElem?_replicate, if_pos h]
  rfl
theorem getD_mapR {α : Type} (n k : Nat) (f : Nat → α) (d : α) (h : k < n) : ((List.range n).map f).getD k d = f k := by
  rw [List.getD_eq_getElem?_getD, List.getElem?_map, List.getElem?_range h]
  rfl
theorem tk_nw {t : Tk} (h : TOk 70 t) (n : Nat) : (t.m n).getD [] = [] ↔ t.m n = none := by
  cases hm : t.m n with
  | none => simp
  | some b =>
    have := (h.wl n b hm).2
    constructor
    · intro e
      have e : b = [] := e
      rw [e] at this
      cases this
    · intro e
      cases e
namespace Tie
variable {x : Lk} {V : Nat → List UInt8} {ot : Option Tk} {t : Tk} {r : Rl}
theorem begun (h : Tie x V ot r) (ho : x.op = false) : Tie ⟨x.d, x.wt, x.pn, true⟩ V (some ⟨fun _ => none, false⟩) { r with op := true, nw := List.replicate 70 [], wr := 0 } := by
  refine ⟨h.L, h.D, h.pn, rfl, fun e => (by cases e), fun t e => ?_⟩
  injection e with e
  subst e
  exact ⟨rfl, TOk.fresh _ _, fun _ => ⟨List.length_replicate, fun n hn => getD_repl _ _ _ _ hn, by show (0 : Int) = _; rw [ksW_0]; rfl⟩⟩
theorem nwIff (h : Tie x V (some t) r) (ho : x.op = true) {n : Nat} (hn : n < 70) : r.nw.getD n [] = [] ↔ t.m n = none := by
  obtain ⟨_, h2, h3⟩ := h.ts t rfl
  rw [(h3 ho).2.1 n hn]
  exact tk_nw h2 n
theorem write (h : Tie x V (some t) r) (n : Int) (bs : List UInt8) (hb : bs.length = 512) : (twriteP 70 t n bs).1 = (rwriteP r n bs).1 ∧ Tie x V (some (twriteP 70 t n bs).2) (rwriteP r n bs).2 := by
  obtain ⟨h1, h2, h3⟩ := h.ts t rfl
  have same : ∀ c : Int, c ≠ 0 → twriteE 70 t n bs = c → rwriteP r n bs = (c, r) → (twriteP 70 t n bs).1 = (rwriteP r n bs).1 ∧ Tie x V (some (twriteP 70 t n bs).2) (rwriteP r n bs).2 := fun c hc e1 e2 => by
    unfold twriteP
    rw [e1, e2, if_neg hc]
    exact ⟨rfl, h⟩
  by_cases hin : 0 ≤ n ∧ n < 70
  · have a1 : ¬ (n < 0 ∨ ((70 : Nat) : Int) ≤ n ∨ bs.length ≠ 512) := by omega
    have a2 : ¬ (¬ (0 ≤ n ∧ n < 70) ∨ bs.length ≠ 512) := by omega
    cases hop : x.op with
    | false =>
      rw [hop] at h1
      have h1 : t.ov = true := h1
      refine same 15 (by decide) ?_ ?_
      · unfold twriteE
        rw [if_neg a1, if_pos h1]
      · unfold rwriteP
        rw [if_neg a2, if_pos (h.op.trans hop)]
    | true =>
      rw [hop] at h1
      have b1 : ¬ (t.ov = true) := by rw [h1]; decide
      have b2 : ¬ (r.op = false) := by rw [h.op, hop]; decide
      obtain ⟨g1, g2, g3⟩ := h3 hop
      obtain ⟨k, rfl⟩ := Int.eq_ofNat_of_zero_le hin.1
      have hk : k < 70 := by omega
      have hfI : fI t.m (k : Int) = t.m k := by unfold fI; rw [if_pos (by omega), Int.toNat_natCast]
      have hiff := h.nwIff hop hk
      have hput : ∀ j, (tput t k bs).m j = if j = k then some bs else t.m j := fun j => rfl
      have hcnt := filter_one (l := List.range 70) List.nodup_range (k := k) (List.mem_range.2 hk) (p := fun j => (t.m j).isSome && !(j == k)) (p' := fun j => ((tput t k bs).m j).isSome) (by simp) (fun j hj => by
        have : (j == k) = false := beq_eq_false_iff_ne.2 hj
        rw [hput, if_neg hj, this]
        simp)
      rw [hput, if_pos rfl, if_pos (by rfl)] at hcnt
      have hcnt : (ksW 70 (tput t k bs).m).length = ((List.range 70).filter fun j => (t.m j).isSome && !(j == k)).length + 1 := hcnt
      have hold := filter_one (l := List.range 70) List.nodup_range (k := k) (List.mem_range.2 hk) (p := fun j => (t.m j).isSome && !(j == k)) (p' := fun j => (t.m j).isSome) (by simp) (fun j hj => by
        have : (j == k) = false := beq_eq_false_iff_ne.2 hj
        simp [this])
      have hold : (ksW 70 t.m).length = ((List.range 70).filter fun j => (t.m j).isSome && !(j == k)).length + if (t.m k).isSome = true then 1 else 0 := hold
      have h63 := h2.k63
      have hT : ∀ w : Int, (ksW 70 (tput t k bs).m).length ≤ 63 → w = ((ksW 70 (tput t k bs).m).length : Int) → twriteE 70 t (k : Int) bs = 0 → rwriteP r (k : Int) bs = (0, { r with nw := r.nw.set k bs, wr := w }) → (twriteP 70 t (k : Int) bs).1 = (rwriteP r (k : Int) bs).1 ∧ Tie x V (some (twriteP 70 t (k : Int) bs).2) (rwriteP r (k : Int) bs).2 := fun w hw hw2 e1 e2 => by
        unfold twriteP
        rw [e1, e2, if_pos rfl, Int.toNat_natCast]
        refine ⟨rfl, h.L, h.D, h.pn, h.op, fun e => (by cases e), fun t' e => ?_⟩
        injection e with e
        subst e
        refine ⟨by rw [hop]; exact h1, ⟨fun m b hb2 => ?_, hw⟩, fun _ => ⟨by show (r.nw.set k bs).length = 70; rw [List.length_set]; exact g1, fun m hm => ?_, hw2⟩⟩
        · rw [hput] at hb2
          split at hb2
          · rename_i e1
            injection hb2 with e2
            subst e2 e1
            exact ⟨hk, hb⟩
          · exact h2.wl m b hb2
        · show (r.nw.set k bs).getD m [] = _
          rw [getD_set _ _ _ _ _ (by omega), hput]
          by_cases e : m = k
          · rw [if_pos e, if_pos e]; rfl
          · rw [if_neg e, if_neg e]
            exact g2 m hm
      cases hm : t.m k with
      | none =>
        rw [hm] at hold
        have hx : r.nw.getD k [] = [] := hiff.2 hm
        have hold : (ksW 70 t.m).length = ((List.range 70).filter fun j => (t.m j).isSome && !(j == k)).length := hold
        by_cases e63 : (ksW 70 t.m).length = 63
        · refine same 7 (by decide) ?_ ?_
          · unfold twriteE
            rw [if_neg a1, if_neg b1, hfI, if_pos ⟨hm, e63⟩]
          · unfold rwriteP
            rw [if_neg a2, if_neg b2, Int.toNat_natCast, if_pos hx, if_pos (by rw [g3]; omega)]
        · refine hT (r.wr + 1) (by omega) (by rw [g3]; omega) ?_ ?_
          · unfold twriteE
            rw [if_neg a1, if_neg b1, hfI, if_neg (fun hh => e63 hh.2)]
          · unfold rwriteP
            rw [if_neg a2, if_neg b2, Int.toNat_natCast, if_pos hx, if_neg (by rw [g3]; omega)]
      | some b0 =>
        rw [hm] at hold
        have hx : ¬ r.nw.getD k [] = [] := fun e => by have := hiff.1 e; rw [hm] at this; cases this
        have hold : (ksW 70 t.m).length = ((List.range 70).filter fun j => (t.m j).isSome && !(j == k)).length + 1 := hold
        refine hT r.wr (by omega) (by rw [g3]; omega) ?_ ?_
        · unfold twriteE
          rw [if_neg a1, if_neg b1, hfI, if_neg (fun hh => by have := hh.1; rw [hm] at this; cases this)]
        · unfold rwriteP
          rw [if_neg a2, if_neg b2, Int.toNat_natCast, if_neg hx]
  · refine same 1 (by decide) ?_ ?_
    · unfold twriteE
      rw [if_pos (by omega)]
    · unfold rwriteP
      rw [if_pos (.inl hin)]
/-- How many unlike blocks together: as the log counts. -/
theorem fits (h : Tie x V (some t) r) (ho : x.op = true) : fitsP 70 x t = !decide (63 < rtog r 70) := by
  unfold fitsP
  rw [← ksW_merge]
  have e : rtog r 70 = (ksW 70 (mergeF x.wt t.m)).length := by
    unfold rtog ksW
    congr 1
    refine List.filter_congr fun k hk => ?_
    have hk : k < 70 := List.mem_range.1 hk
    unfold rtogB mergeF
    rw [h.D k hk, ((h.ts t rfl).2.2 ho).2.1 k hk]
    cases hm : t.m k with
    | none => simp
    | some b =>
      have := ((h.ts t rfl).2.1.wl k b hm).2
      have hb : b ≠ [] := fun e => by rw [e] at this; cases this
      simp [hb]
  rw [e]
  by_cases h6 : (ksW 70 (mergeF x.wt t.m)).length ≤ 63
  · rw [decide_eq_true h6, decide_eq_false (by omega)]; rfl
  · rw [decide_eq_false h6, decide_eq_true (by omega)]; rfl
theorem merge (h : Tie x V (some t) r) (ho : x.op = true) (p : Int) (hp : p = r.pn + 1) : Tie ⟨x.d, mergeF x.wt t.m, p, false⟩ V (some ⟨t.m, true⟩) (rmergeP r) := by
  refine ⟨fun n hn => ?_, fun n hn => ?_, hp.symm, rfl, fun e => (by cases e), fun t' e => ?_⟩
  · show ((List.range 70).map (mrgL r)).getD n [] = (mergeF x.wt t.m n).getD (V (65 + n))
    rw [getD_mapR _ _ _ _ hn]
    have hiff := h.nwIff ho hn
    have hnw := ((h.ts t rfl).2.2 ho).2.1 n hn
    cases hm : t.m n with
    | none =>
      rw [show mergeF x.wt t.m n = x.wt n by unfold mergeF; rw [hm]]
      unfold mrgL
      rw [if_pos (hiff.2 hm)]
      exact h.L n hn
    | some b =>
      rw [show mergeF x.wt t.m n = some b by unfold mergeF; rw [hm]]
      unfold mrgL
      rw [if_neg (fun e => by have := hiff.1 e; rw [hm] at this; cases this), hnw, hm]
      rfl
  · show ((List.range 70).map (mrgD r)).getD n false = (mergeF x.wt t.m n).isSome
    rw [getD_mapR _ _ _ _ hn]
    have hiff := h.nwIff ho hn
    cases hm : t.m n with
    | none =>
      rw [show mergeF x.wt t.m n = x.wt n by unfold mergeF; rw [hm]]
      unfold mrgD
      rw [if_pos (hiff.2 hm)]
      exact h.D n hn
    | some b =>
      rw [show mergeF x.wt t.m n = some b by unfold mergeF; rw [hm]]
      unfold mrgD
      rw [if_neg (fun e => by have := hiff.1 e; rw [hm] at this; cases this)]
      rfl
  · injection e with e
    subst e
    exact ⟨rfl, ⟨(h.ts t rfl).2.1.wl, (h.ts t rfl).2.1.k63⟩, fun e => by cases e⟩
theorem sync (h : Tie x V ot r) {V' : Nat → List UInt8} {d' : Dk} (hh : HomeOk 135 V' (datP x V)) : Tie ⟨d', fun _ => none, 0, x.op⟩ V' ot (rsyncP r) := by
  refine ⟨fun n hn => ?_, fun n hn => getD_repl _ _ _ _ hn, rfl, h.op, h.tn, h.ts⟩
  show r.L.getD n [] = _
  rw [h.L n hn]
  exact (hh.2 n hn).symm
theorem commit (h : Tie x V (some t) r) (ho : x.op = true) (hp : PA x V) : ((commitP 70 x t).1 = 6 ∧ (commitP 70 x t).2.2 = ⟨t.m, true⟩ ∧ Cq 135 (fun L => Rep 135 L (fun n => V (65 + n)) ∨ Rep 135 L (datP x V)) (commitP 70 x t).2.1.d) ∨
    ((commitP 70 x t).1 = 0 ∧ (commitP 70 x t).2.2 = ⟨t.m, true⟩ ∧ ∃ V', PA (commitP 70 x t).2.1 V' ∧ Tie (commitP 70 x t).2.1 V' (some ⟨t.m, true⟩) (rcommitP r) ∧ (((rcommitP r).sy = r.sy ∧ V' = V) ∨ ((rcommitP r).sy = r.sy + 1 ∧ HomeOk 135 V' (datP x V)))) := by
  obtain ⟨h1, h2, h3⟩ := h.ts t rfl
  have hfit := h.fits ho
  rcases hp.commit h2 (by rw [h1, ho]; rfl) with ⟨hf, e, hq⟩ | ⟨hf, d', V', e, hq, hh⟩ | ⟨hf, e, e2, hc⟩
  · rw [hf] at hfit
    have hlt : ¬ 63 < rtog r 70 := fun hh => by rw [decide_eq_true hh] at hfit; cases hfit
    rw [e]
    refine .inr ⟨rfl, rfl, V, hq, ?_, .inl ⟨?_, rfl⟩⟩
    · unfold rcommitP
      rw [if_neg hlt]
      exact h.merge ho _ (by rw [h.pn])
    · unfold rcommitP
      rw [if_neg hlt]
      rfl
  · rw [hf] at hfit
    have hlt : 63 < rtog r 70 := by
      by_cases hh : 63 < rtog r 70
      · exact hh
      · rw [decide_eq_false hh] at hfit; cases hfit
    rw [e]
    refine .inr ⟨rfl, rfl, V', hq, ?_, .inr ⟨?_, hh⟩⟩
    · unfold rcommitP
      rw [if_pos hlt]
      have hs := h.sync (d' := d') hh
      have := hs.merge ho 1 rfl
      have hn : mergeF (fun _ => none) t.m = t.m := by
        funext k
        unfold mergeF
        cases t.m k <;> rfl
      have this : Tie ⟨d', mergeF (fun _ => none) t.m, 1, false⟩ V' (some ⟨t.m, true⟩) (rmergeP (rsyncP r)) := this
      rw [hn] at this
      exact this
    · unfold rcommitP
      rw [if_pos hlt]
      rfl
  · exact .inl ⟨e, e2, hc⟩
theorem abort (h : Tie x V (some t) r) : Tie (abortP x t).1 V (some (abortP x t).2) { r with op := false } ∧ (abortP x t).1.d = x.d ∧ (abortP x t).1.wt = x.wt := by
  obtain ⟨h1, h2, h3⟩ := h.ts t rfl
  unfold abortP
  cases hop : x.op with
  | false =>
    rw [hop] at h1
    rw [if_pos (show t.ov = true from h1)]
    exact ⟨⟨h.L, h.D, h.pn, hop.symm, fun e => (by cases e), fun t' e => by
      injection e with e
      subst e
      exact ⟨by rw [hop]; exact h1, h2, fun e => by rw [hop] at e; cases e⟩⟩, rfl, rfl⟩
  | true =>
    rw [hop] at h1
    rw [if_neg (by rw [h1]; decide)]
    exact ⟨⟨h.L, h.D, h.pn, rfl, fun e => (by cases e), fun t' e => by
      injection e with e
      subst e
      exact ⟨rfl, TOk.fresh _ _, fun e => by cases e⟩⟩, rfl, rfl⟩
theorem tread (h : Tie x V (some t) r) (ho : x.op = true) (hp : PA x V) (n : Int) : treadP x t n = if 0 ≤ n ∧ n < 70 then (0, (rreadP r n).2) else (1, lvalP x n.toNat) := by
  obtain ⟨h1, h2, h3⟩ := h.ts t rfl
  rw [ho] at h1
  unfold treadP
  rw [if_neg (by rw [h1]; decide)]
  by_cases hin : 0 ≤ n ∧ n < 70
  · obtain ⟨k, rfl⟩ := Int.eq_ofNat_of_zero_le hin.1
    have hk : k < 70 := by omega
    have hfI : fI t.m (k : Int) = t.m k := by unfold fI; rw [if_pos (by omega), Int.toNat_natCast]
    have hiff := h.nwIff ho hk
    rw [if_pos hin, hfI]
    unfold rreadP
    rw [if_pos hin, Int.toNat_natCast]
    cases hm : t.m k with
    | none =>
      rw [if_pos (hiff.2 hm)]
      show (lreadE x k, lvalP x k) = _
      rw [hp.readE, if_pos hin, hp.val hk, h.L k hk]
    | some b =>
      rw [if_neg (fun e => by have := hiff.1 e; rw [hm] at this; cases this), (h3 ho).2.1 k hk, hm]
      rfl
  · rw [if_neg hin]
    have hfI : fI t.m n = none := by
      unfold fI
      split
      · cases hm : t.m n.toNat with
        | none => rfl
        | some b => have := (h2.wl _ b hm).1; omega
      · rfl
    rw [hfI]
    show (lreadE x n, lvalP x n.toNat) = _
    rw [hp.readE, if_neg hin]
theorem d5 (h : Tie x V ot r) (hp : PA x V) {n : Nat} (hn : n < 70) : (r.L.getD n []).length = 512 := by rw [h.L n hn]; exact hp.d5 hn
theorem rread5 (h : Tie x V (some t) r) (ho : x.op = true) (hp : PA x V) (n : Int) (hin : 0 ≤ n ∧ n < 70) : (rreadP r n).2.length = 512 := by
  have hn : n.toNat < 70 := by omega
  unfold rreadP
  rw [if_pos hin]
  split
  · exact h.d5 hp hn
  · rename_i hx
    have hx : ¬ r.nw.getD n.toNat [] = [] := hx
    show (r.nw.getD n.toNat []).length = 512
    rw [((h.ts t rfl).2.2 ho).2.1 _ hn] at hx ⊢
    cases hm : t.m n.toNat with
    | none => rw [hm] at hx; exact absurd rfl hx
    | some b => exact ((h.ts t rfl).2.1.wl _ b hm).2
end Tie
end Go.Proofs.Ytlfbfmeppcicnaa
namespace Go.Proofs.Ytlfbfmeppcicnaa
open Go.RowKit
structure PM (W0 w : World) (gl g : Nat) (x : Lk) (ot : Option (Nat × Tk)) (gr bl cl bd cd : Nat) (nv : Value) (r : Rl) (X : Nat → Prop) : Prop where
  ex : ∃ S F ST FT, LO w gl g x S F ∧ (∀ p, ot = some p → TX w p.1 gl 70 p.2 ST FT) ∧ (∀ k, S k → ¬ ST k) ∧ (∀ k, ST k → k < w.heap.size) ∧ ∀ k, S k ∨ ST k → W0.heap.size ≤ k ∧ ¬ X k ∧ ¬ rgS gr bl bd nv k
  rg : RG w gr bl cl bd cd nv r
  rn : ∀ k, rgS gr bl bd nv k → W0.heap.size ≤ k ∧ ¬ X k
  bel : Below W0.heap.size W0 w
  xl : ∀ k, X k → k < w.heap.size
theorem RG.kinds {w : World} {gr bl cl bd cd : Nat} {nv : Value} {r : Rl} (h : RG w gr bl cl bd cd nv r) {k : Nat} (hk : rgS gr bl bd nv k) : k < w.heap.size ∧ ∃ t cs, Blk w k t cs ∧ 5 ≠ t ∧ 3 ≠ t := by
  rcases hk with rfl | rfl | rfl | hk
  · exact ⟨h.blk.lt, _, _, h.blk, by decide, by decide⟩
  · obtain ⟨sp, hb⟩ := h.l
    exact ⟨hb.lt, _, _, hb, by decide, by decide⟩
  · obtain ⟨sp, hb⟩ := h.d
    exact ⟨hb.lt, _, _, hb, by decide, by decide⟩
  · rcases h.n with ⟨rfl, _⟩ | ⟨b, c, rfl, _, _, sp, hb⟩
    · simp [Value.ownBlock] at hk
    · have e : b = k := Option.some.inj hk
      subst e
      exact ⟨hb.lt, _, _, hb, by decide, by decide⟩
section
variable {W0 w w' : World} {gl g gr bl cl bd cd : Nat} {x : Lk} {ot : Option (Nat × Tk)} {nv : Value} {r : Rl} {X : Nat → Prop}
theorem RG.below (h : RG w gr bl cl bd cd nv r) (hb : Below w.heap.size w w') : RG w' gr bl cl bd cd nv r :=
  h.chg (S := fun _ => False) (Chg.of_below hb) fun _ _ h => h
theorem PM.below (h : PM W0 w gl g x ot gr bl cl bd cd nv r X) (hb : Below w.heap.size w w') : PM W0 w' gl g x ot gr bl cl bd cd nv r X := by
  obtain ⟨S, F, ST, FT, h1, h2, h3, h4, h5⟩ := h.ex
  exact ⟨⟨S, F, ST, FT, h1.below hb, fun p hp => (h2 p hp).below hb, h3, fun k hk => Nat.lt_of_lt_of_le (h4 k hk) hb.size, h5⟩, h.rg.below hb, h.rn, h.bel.trans (hb.mono h.bel.size), fun k hk => Nat.lt_of_lt_of_le (h.xl k hk) hb.size⟩
theorem PM.less (h : PM W0 w gl g x ot gr bl cl bd cd nv r X) {Y : Nat → Prop} (hY : ∀ k, Y k → X k) : PM W0 w gl g x ot gr bl cl bd cd nv r Y := by
  obtain ⟨S, F, ST, FT, h1, h2, h3, h4, h5⟩ := h.ex
  exact ⟨⟨S, F, ST, FT, h1, h2, h3, h4, fun k hk => ⟨(h5 k hk).1, fun hy => (h5 k hk).2.1 (hY k hy), (h5 k hk).2.2⟩⟩, h.rg, fun k hk => ⟨(h.rn k hk).1, fun hy => (h.rn k hk).2 (hY k hy)⟩, h.bel, fun k hk => h.xl k (hY k hk)⟩
/-- What the caller does to blocks of its own; new ones may become its own. -/
theorem PM.own (h : PM W0 w gl g x ot gr bl cl bd cd nv r X) {Z Y : Nat → Prop} (hc : Chg Z w w') (hZ : ∀ k, Z k → X k ∧ W0.heap.size ≤ k) (h8 : ∀ k cs, Blk w k 5 cs → ¬ Z k) (hi : ∀ k cs, Blk w k 3 cs → ¬ Z k) (hY : ∀ k, Y k → X k ∨ (w.heap.size ≤ k ∧ k < w'.heap.size)) : PM W0 w' gl g x ot gr bl cl bd cd nv r Y := by
  obtain ⟨S, F, ST, FT, h1, h2, h3, h4, h5⟩ := h.ex
  refine ⟨⟨S, F, ST, FT, h1.chgT hc (fun k hk hz => (h5 k (.inl hk)).2.1 (hZ k hz).1) h8 hi, fun p hp => (h2 p hp).chgT hc (fun k hk hz => (h5 k (.inr hk)).2.1 (hZ k hz).1) h8, h3, fun k hk => Nat.lt_of_lt_of_le (h4 k hk) hc.size, fun k hk => ⟨(h5 k hk).1, fun hy => ?_, (h5 k hk).2.2⟩⟩, h.rg.chg hc (fun k hk hz => (h.rn k hk).2 (hZ k hz).1), fun k hk => ⟨(h.rn k hk).1, fun hy => ?_⟩, below_chg h.bel hc (fun k hk => (hZ k hk).2), fun k hk => ?_⟩
  · rcases hY k hy with e | ⟨e, _⟩
    · exact (h5 k hk).2.1 e
    · rcases hk with hk | hk
      · have := h1.lt hk; omega
      · have := h4 k hk; omega
  · rcases hY k hy with e | ⟨e, _⟩
    · exact (h.rn k hk).2 e
    · have := (h.rg.kinds hk).1; omega
  · rcases hY k hk with e | ⟨_, e⟩
    · exact Nat.lt_of_lt_of_le (h.xl k e) hc.size
    · exact e
/-- What a call of the document's log leaves. -/
theorem PM.ref (h : PM W0 w gl g x ot gr bl cl bd cd nv r X) {nv' : Value} {r' : Rl} (hc : Chg (rgS gr bl bd nv) w w') (hg : RG w' gr bl cl bd cd nv' r') (hn : ∀ k, nv'.ownBlock = some k → nv.ownBlock = some k ∨ w.heap.size ≤ k) : PM W0 w' gl g x ot gr bl cl bd cd nv' r' X ∧ KeepX X w w' := by
  obtain ⟨S, F, ST, FT, h1, h2, h3, h4, h5⟩ := h.ex
  have h8 : ∀ k cs, Blk w k 5 cs → ¬ rgS gr bl bd nv k := fun k cs hb hk => by
    obtain ⟨_, t, cs2, hb2, e, _⟩ := h.rg.kinds hk
    exact absurd rfl (hb.ne_ hb2 e)
  have hi : ∀ k cs, Blk w k 3 cs → ¬ rgS gr bl bd nv k := fun k cs hb hk => by
    obtain ⟨_, t, cs2, hb2, _, e⟩ := h.rg.kinds hk
    exact absurd rfl (hb.ne_ hb2 e)
  have hs : ∀ k, rgS gr bl bd nv' k → rgS gr bl bd nv k ∨ w.heap.size ≤ k := fun k hk => by
    rcases hk with e | e | e | e
    · exact .inl (.inl e)
    · exact .inl (.inr (.inl e))
    · exact .inl (.inr (.inr (.inl e)))
    · rcases hn k e with e | e
      · exact .inl (.inr (.inr (.inr e)))
      · exact .inr e
  refine ⟨⟨⟨S, F, ST, FT, h1.chgT hc (fun k hk => (h5 k (.inl hk)).2.2) h8 hi, fun p hp => (h2 p hp).chgT hc (fun k hk => (h5 k (.inr hk)).2.2) h8, h3, fun k hk => Nat.lt_of_lt_of_le (h4 k hk) hc.size, fun k hk => ⟨(h5 k hk).1, (h5 k hk).2.1, fun hr => ?_⟩⟩, hg, fun k hk => ?_, below_chg h.bel hc (fun k hk => (h.rn k hk).1), fun k hk => Nat.lt_of_lt_of_le (h.xl k hk) hc.size⟩, KeepX.of_chg hc (fun k hk => ⟨h.xl k hk, fun hr => (h.rn k hr).2 hk⟩)⟩
  · rcases hs k hr with e | e
    · exact (h5 k hk).2.2 e
    · rcases hk with hk | hk
      · have := h1.lt hk; omega
      · have := h4 k hk; omega
  · rcases hs k hk with e | e
    · exact h.rn k e
    · exact ⟨Nat.le_trans h.bel.size e, fun hx => by have := h.xl k hx; omega⟩
/-- What a call of the log, or of its transaction, leaves. -/
theorem PM.log {S ST S' F' ST' FT' : Nat → Prop} {x' : Lk} {ot' : Option (Nat × Tk)} (h : PM W0 w gl g x ot gr bl cl bd cd nv r X) (h4 : ∀ k, S k ∨ ST k → k < w.heap.size) (h5 : ∀ k, S k ∨ ST k → W0.heap.size ≤ k ∧ ¬ X k ∧ ¬ rgS gr bl bd nv k) (hc : Chg (fun k => S k ∨ ST k) w w') (g1 : LO w' gl g x' S' F') (g2 : ∀ p, ot' = some p → TX w' p.1 gl 70 p.2 ST' FT') (g3 : ∀ k, S' k → ¬ ST' k) (g4 : ∀ k, ST' k → k < w'.heap.size) (g5 : ∀ k, S' k ∨ ST' k → (S k ∨ ST k) ∨ w.heap.size ≤ k) : PM W0 w' gl g x' ot' gr bl cl bd cd nv r X ∧ KeepX X w w' := by
  refine ⟨⟨⟨S', F', ST', FT', g1, g2, g3, g4, fun k hk => ?_⟩, h.rg.chg hc (fun k hk hs => (h5 k hs).2.2 hk), h.rn, below_chg h.bel hc (fun k hk => (h5 k hk).1), fun k hk => Nat.lt_of_lt_of_le (h.xl k hk) hc.size⟩, KeepX.of_chg hc (fun k hk => ⟨h.xl k hk, fun hs => (h5 k hs).2.1 hk⟩)⟩
  rcases g5 k hk with e | e
  · exact h5 k e
  · exact ⟨Nat.le_trans h.bel.size e, fun hx => by have := h.xl k hx; omega, fun hr => by have := (h.rg.kinds hr).1; omega⟩
theorem pBegin_open (h : PM W0 w gl g x ot gr bl cl bd cd nv r X) (hof : x.d.off = false) (hop : x.op = true) :
    Calls Try.prog 17 #[.pointer (some ⟨gl, 0, none⟩)] w (Ans w (.tuple #[.pointer none, .int .i64 15])) := by
  obtain ⟨S, F, ST, FT, h1, h2, h3, h4, h5⟩ := h.ex
  refine (Begin_calls w h1).mono ?_
  rintro e w' (⟨a, _⟩ | ⟨_, a, rfl, rfl⟩ | ⟨_, a, _⟩)
  · rw [hof] at a; cases a
  · exact ⟨rfl, rfl⟩
  · rw [hop] at a; cases a
theorem pBegin (h : PM W0 w gl g x ot gr bl cl bd cd nv r X) (hl : x.d.l.length = 135) (hof : x.d.off = false) (hop : x.op = false) :
    Calls Try.prog 17 #[.pointer (some ⟨gl, 0, none⟩)] w fun e w' => ∃ gt, e = .returned (.tuple #[.pointer (some ⟨gt, 0, none⟩), .int .i64 0]) ∧ PM W0 w' gl g ⟨x.d, x.wt, x.pn, true⟩ (some (gt, ⟨fun _ => none, false⟩)) gr bl cl bd cd nv r X ∧ KeepX X w w' := by
  obtain ⟨S, F, ST, FT, h1, h2, h3, h4, h5⟩ := h.ex
  refine (Begin_calls w h1).mono ?_
  rintro e w' (⟨a, _⟩ | ⟨_, a, _⟩ | ⟨_, _, gt, rfl, g1, g2, ST', g3, g4⟩)
  · rw [hof] at a; cases a
  · rw [hop] at a; cases a
  · rw [hl] at g3
    refine ⟨gt, rfl, h.log (S := S) (ST := ST) (fun k hk => hk.elim (fun h => h1.lt h) (h4 k)) h5 (g2.mono (fun k _ hk => .inl hk)) g1 (fun p hp => by injection hp with hp; subst hp; exact g3) (fun k hk hT => ?_) (fun k hk => g3.lt hk) (fun k hk => ?_)⟩
    · have := g4 k hT
      have := h1.lt hk
      omega
    · rcases hk with hk | hk
      · exact .inl (.inl hk)
      · exact .inr (g4 k hk)
theorem pSync (h : PM W0 w gl g x ot gr bl cl bd cd nv r X) {M : Nat} (hf : Fit 135 M x.d) (hM : M ≤ 800000000) (hk : (ksW 70 x.wt).length ≤ 63) :
    Calls Try.prog 21 #[.pointer (some ⟨gl, 0, none⟩)] w fun e w' => e = .returned (.int .i64 (lsyncP x).1) ∧ PM W0 w' gl g (lsyncP x).2 ot gr bl cl bd cd nv r X ∧ KeepX X w w' := by
  obtain ⟨S, F, ST, FT, h1, h2, h3, h4, h5⟩ := h.ex
  refine (LSync_calls w h1 hf hM (by omega) hk).mono ?_
  rintro e w' ⟨rfl, S', F', g1, g2, g3, g4⟩
  refine ⟨rfl, h.log (S := S) (ST := ST) (ST' := ST) (FT' := FT) (fun k hk => hk.elim (fun h => h1.lt h) (h4 k)) h5 (g2.mono (fun k _ hk => .inl hk)) g1 (fun p hp => (h2 p hp).chgT g2 (fun k hk hs => h3 k hs hk) h1.not8) (fun k hk hT => ?_) (fun k hk => Nat.lt_of_lt_of_le (h4 k hk) g2.size) (fun k hk => ?_)⟩
  · rcases g3 k hk with e | e
    · exact h3 k e hT
    · have := h4 k hT; omega
  · rcases hk with hk | hk
    · rcases g3 k hk with e | e
      · exact .inl (.inl e)
      · exact .inr e
    · exact .inl (.inr hk)
variable {gt : Nat} {t : Tk}
theorem pCommit (h : PM W0 w gl g x (some (gt, t)) gr bl cl bd cd nv r X) {M : Nat} (hf : Fit 135 M x.d) (hM : M ≤ 800000000) (hk : (ksW 70 x.wt).length ≤ 63) (hp : 0 ≤ x.pn ∧ x.pn ≤ 1000000000) :
    Calls Try.prog 20 #[.pointer (some ⟨gt, 0, none⟩)] w fun e w' => e = .returned (.int .i64 (commitP 70 x t).1) ∧ PM W0 w' gl g (commitP 70 x t).2.1 (some (gt, (commitP 70 x t).2.2)) gr bl cl bd cd nv r X ∧ KeepX X w w' := by
  obtain ⟨S, F, ST, FT, h1, h2, h3, h4, h5⟩ := h.ex
  refine (Commit_calls w h1 (h2 _ rfl) h3 hf hM (by omega) hk hp).mono ?_
  rintro e w' ⟨rfl, S', F', g1, g2, g3, g4, _⟩
  refine ⟨rfl, h.log (S := S) (ST := ST) (ST' := ST) (FT' := FT) (fun k hk => hk.elim (fun h => h1.lt h) (h4 k)) h5 g3 g1 (fun p hp => by injection hp with hp; subst hp; exact g2) (fun k hk hT => ?_) (fun k hk => Nat.lt_of_lt_of_le (h4 k hk) g3.size) (fun k hk => ?_)⟩
  · rcases g4 k hk with e | e
    · exact h3 k e hT
    · have := h4 k hT; omega
  · rcases hk with hk | hk
    · rcases g4 k hk with e | e
      · exact .inl (.inl e)
      · exact .inr e
    · exact .inl (.inr hk)
theorem pWrite (h : PM W0 w gl g x (some (gt, t)) gr bl cl bd cd nv r X) (hl : x.d.l.length = 135) (n : Int) (n1 : -9223372036854775808 ≤ n) (n2 : n ≤ 9223372036854775807) (v : Value) (bs : List UInt8) (hv : Rd w v (bvs bs)) (hb : bs.length ≤ 1000000000) :
    Calls Try.prog 18 #[.pointer (some ⟨gt, 0, none⟩), .int .i64 n, v] w fun e w' => e = .returned (.int .i64 (twriteP 70 t n bs).1) ∧ PM W0 w' gl g x (some (gt, (twriteP 70 t n bs).2)) gr bl cl bd cd nv r X ∧ KeepX X w w' := by
  obtain ⟨S, F, ST, FT, h1, h2, h3, h4, h5⟩ := h.ex
  have ht := h2 _ rfl
  refine (TWrite_calls w h1 ht (by omega) (by omega) n n1 n2 v bs hv hb).mono ?_
  rintro e w' ⟨rfl, FT', g1, g2, g3⟩
  refine ⟨rfl, h.log (S := S) (ST := ST) (ST' := ST) (FT' := FT') (fun k hk => hk.elim (fun h => h1.lt h) (h4 k)) h5 (g2.mono (fun k _ hk => .inr hk)) (h1.chgT g2 (fun k hk => h3 k hk) ht.not8 ht.noti) (fun p hp => by injection hp with hp; subst hp; exact g1) h3 (fun k hk => Nat.lt_of_lt_of_le (h4 k hk) g2.size) (fun k hk => .inl hk)⟩
theorem pAbort (h : PM W0 w gl g x (some (gt, t)) gr bl cl bd cd nv r X) :
    Calls Try.prog 34 #[.pointer (some ⟨gt, 0, none⟩)] w fun e w' => e = .returned (.tuple #[]) ∧ PM W0 w' gl g (abortP x t).1 (some (gt, (abortP x t).2)) gr bl cl bd cd nv r X ∧ KeepX X w w' := by
  obtain ⟨S, F, ST, FT, h1, h2, h3, h4, h5⟩ := h.ex
  refine (Abort_calls w h1 (h2 _ rfl) h3).mono ?_
  rintro e w' ⟨rfl, g1, g2, g3⟩
  exact ⟨rfl, h.log (S := S) (ST := ST) (ST' := ST) (FT' := FT) (fun k hk => hk.elim (fun h => h1.lt h) (h4 k)) h5 g3 g1 (fun p hp => by injection hp with hp; subst hp; exact g2) h3 (fun k hk => Nat.lt_of_lt_of_le (h4 k hk) g3.size) (fun k hk => .inl hk)⟩
theorem pTRead (h : PM W0 w gl g x (some (gt, t)) gr bl cl bd cd nv r X) {M : Nat} (hf : Fit 135 M x.d) (hM : M ≤ 800000000) (n : Int) (n1 : -9223372036854775808 ≤ n) (n2 : n ≤ 9223372036854775807) :
    Calls Try.prog 33 #[.pointer (some ⟨gt, 0, none⟩), .int .i64 n] w (RdOut w (treadP x t n).1 (treadP x t n).2) := by
  obtain ⟨S, F, ST, FT, h1, h2, h3, h4, h5⟩ := h.ex
  exact TRead_calls w h1 (h2 _ rfl) hf (by omega) (by omega) n n1 n2
theorem pWrites (h : PM W0 w gl g x (some (gt, t)) gr bl cl bd cd nv r X) : Calls Try.prog 28 #[.pointer (some ⟨gt, 0, none⟩)] w (Ans w (.int .i64 ((ksW 70 t.m).length : Int))) := by
  obtain ⟨S, F, ST, FT, h1, h2, h3, h4, h5⟩ := h.ex
  exact Writes_callsT w (h2 _ rfl)
theorem pRead (h : PM W0 w gl g x ot gr bl cl bd cd nv r X) {M : Nat} (hf : Fit 135 M x.d) (hM : M ≤ 800000000) (n : Int) :
    Calls Try.prog 23 #[.pointer (some ⟨gl, 0, none⟩), .int .i64 n] w (RdOut w (lreadE x n) (lvalP x n.toNat)) := by
  obtain ⟨S, F, ST, FT, h1, h2, h3, h4, h5⟩ := h.ex
  exact LRead_calls w h1 hf (by omega) (by omega) n
theorem pPending (h : PM W0 w gl g x ot gr bl cl bd cd nv r X) : Calls Try.prog 29 #[.pointer (some ⟨gl, 0, none⟩)] w (Ans w (.int .i64 x.pn)) := by
  obtain ⟨S, F, ST, FT, h1, h2, h3, h4, h5⟩ := h.ex
  exact LPending_calls w h1
/-- The log, unarmed, by itself. -/
theorem PM.lc {V : Nat → List UInt8} (h : PM W0 w gl g x ot gr bl cl bd cd nv r X) (hl : LA 135 x V) : LC W0 w gl g 135 x V X := by
  obtain ⟨S, F, ST, FT, h1, h2, h3, h4, h5⟩ := h.ex
  exact ⟨⟨S, F, h1, fun k hk => ⟨(h5 k (.inl hk)).1, (h5 k (.inl hk)).2.1⟩⟩, hl, h.bel, h.xl⟩
end
end Go.Proofs.Ytlfbfmeppcicnaa
