/-
  The same with classes that shrink: behind each loud operation the walk may name a class of its own; a quiet operation is settled under the class of the last loud one that it waits for.
-/
import Derived.Test.YtefbmbfhhhjgkaaDraw
namespace Go.Proofs.Ytefbmbfhhhjgkaa
section
variable {P : Program} {ops : Array Oper} {md : Region.Mode} {st : Nat → Nat} {lou : List Nat} {fin : Nat → Bool}
abbrev Cls := Nat → World → Prop
def ext (D : Cls) (cur : Nat) (C : World → Prop) : Cls := fun s => bif Nat.ble s cur then D s else C
theorem ext_le {D : Cls} {cur s : Nat} {C : World → Prop} (h : s ≤ cur) : ext D cur C s = D s := by
  unfold ext
  rw [Nat.ble_eq_true_of_le h]
  rfl
theorem ext_all {D : Cls} {cur : Nat} {C : World → Prop} {w : World} (h : ∀ s, D s w) (hc : C w) : ∀ s, ext D cur C s w := by
  intro s
  unfold ext
  cases Nat.ble s cur
  · exact hc
  · exact h s
theorem of_eq_true_nat {a b : Nat} (h : Nat.blt a b = true) : a < b := by rwa [Nat.blt_eq] at h
/-- Which operations each one waits for, at once or through others: a row of 128 bits each. -/
def mOr (md : Region.Mode) (acc k : Nat) : List Edge → Nat
  | [] => 0
  | e :: r => if Region.binds md e && Nat.blt e.on k then (1 <<< e.on) ||| ((acc >>> (128 * e.on)) ||| mOr md acc k r) else mOr md acc k r
def masks (md : Region.Mode) : List Oper → Nat → Nat → Nat
  | [], _, acc => acc
  | o :: r, k, acc => masks md r (k + 1) (acc ||| ((mOr md acc k o.after.toList % 2 ^ 128) <<< (128 * k)))
def reach2 (md : Region.Mode) (ops : Array Oper) (j i : Nat) : Bool := Nat.blt i 128 && (masks md ops.toList 0 0).testBit (128 * j + i)
inductive Waits (md : Region.Mode) (ops : Array Oper) : Nat → Nat → Prop
  | one {j i : Nat} {o : Oper} {e : Edge} : ops[j]? = some o → e ∈ o.after → Region.binds md e = true → e.on = i → Waits md ops j i
  | more {j i : Nat} {o : Oper} {e : Edge} : ops[j]? = some o → e ∈ o.after → Region.binds md e = true → Waits md ops e.on i → Waits md ops j i
theorem mOr_spec {acc k i : Nat} (hi : i < 128) : ∀ (l : List Edge), (mOr md acc k l).testBit i = true → ∃ e ∈ l, Region.binds md e = true ∧ e.on < k ∧ (e.on = i ∨ acc.testBit (128 * e.on + i) = true)
  | [], h => by simp [mOr] at h
  | e :: r, h => by
    unfold mOr at h
    split at h
    · rename_i hb
      simp only [Bool.and_eq_true] at hb
      have hlt : e.on < k := of_eq_true_nat hb.2
      rw [Nat.testBit_or, Nat.testBit_or, Bool.or_eq_true, Bool.or_eq_true] at h
      rcases h with h | h | h
      · refine ⟨e, List.mem_cons_self, hb.1, hlt, .inl ?_⟩
        rw [Nat.one_shiftLeft, Nat.testBit_two_pow] at h
        simpa using h
      · refine ⟨e, List.mem_cons_self, hb.1, hlt, .inr ?_⟩
        rw [Nat.testBit_shiftRight] at h
        exact h
      · obtain ⟨e', he', h'⟩ := mOr_spec hi r h
        exact ⟨e', List.mem_cons_of_mem _ he', h'⟩
    · obtain ⟨e', he', h'⟩ := mOr_spec hi r h
      exact ⟨e', List.mem_cons_of_mem _ he', h'⟩
theorem masks_spec : ∀ (l : List Oper) (k acc : Nat), (∀ n, l[n]? = ops[k + n]?) → (∀ j i, j < k → i < 128 → acc.testBit (128 * j + i) = true → Waits md ops j i) → (∀ p, 128 * k ≤ p → acc.testBit p = false) →
    ∀ j i, i < 128 → (masks md l k acc).testBit (128 * j + i) = true → Waits md ops j i
  | [], k, acc, hl, h, hz, j, i, hi, ht => by
    unfold masks at ht
    rcases Nat.lt_or_ge j k with hj | hj
    · exact h j i hj hi ht
    · rw [hz _ (by omega)] at ht; cases ht
  | o :: r, k, acc, hl, h, hz, j, i, hi, ht => by
    unfold masks at ht
    have h0 : ops[k]? = some o := by simpa using (hl 0).symm
    refine masks_spec r (k + 1) _ (fun n => by have := hl (n + 1); simpa [Nat.add_assoc, Nat.add_comm 1 n] using this) (fun j' i' hj' hi' ht' => ?_) (fun p hp => ?_) j i hi ht
    · rw [Nat.testBit_or, Bool.or_eq_true] at ht'
      rcases ht' with ht' | ht'
      · rcases Nat.lt_or_ge j' k with hj2 | hj2
        · exact h j' i' hj2 hi' ht'
        · rw [hz _ (by omega)] at ht'; cases ht'
      · rw [Nat.testBit_shiftLeft, Bool.and_eq_true] at ht'
        obtain ⟨hge, ht'⟩ := ht'
        have hge : 128 * k ≤ 128 * j' + i' := by simpa using hge
        have hjk : j' = k := by omega
        subst hjk
        rw [Nat.testBit_mod_two_pow, Bool.and_eq_true, show 128 * j' + i' - 128 * j' = i' by omega] at ht'
        obtain ⟨e, he, hb, hlt, hc⟩ := mOr_spec hi' _ ht'.2
        have he : e ∈ o.after := by simpa using he
        rcases hc with hc | hc
        · exact .one h0 he hb hc
        · exact .more h0 he hb (h e.on i' hlt hi' hc)
    · rw [Nat.testBit_or, hz p (by omega), Bool.false_or, Nat.testBit_shiftLeft, Nat.testBit_mod_two_pow]
      have : ¬ (p - 128 * k < 128) := by omega
      simp [this]
theorem Waits.listed {listed : Array Bool} {j i : Nat} (hw : Waits md ops j i) (hd : Down md ops listed) : ∀ (oj : Oper), ops[j]? = some oj → (∀ e ∈ oj.after, Region.binds md e = true → listed.getD e.on false = true) → listed.getD i false = true := by
  induction hw with
  | one ho he hb hi =>
    intro oj hj hall
    rw [ho] at hj
    cases hj
    rw [← hi]
    exact hall _ he hb
  | more ho he hb hw ih =>
    intro oj hj hall
    rw [ho] at hj
    cases hj
    have hl := hall _ he hb
    cases hw with
    | one ho2 _ _ _ => exact ih _ ho2 (hd _ _ ho2 hl)
    | more ho2 _ _ _ => exact ih _ ho2 (hd _ _ ho2 hl)
theorem reach2_listed {listed : Array Bool} {i j : Nat} (hd : Down md ops listed) {oj : Oper} (hj : ops[j]? = some oj) (hall : ∀ e ∈ oj.after, Region.binds md e = true → listed.getD e.on false = true) (h : reach2 md ops j i = true) : listed.getD i false = true := by
  unfold reach2 at h
  rw [Bool.and_eq_true] at h
  have hi : i < 128 := of_eq_true_nat h.1
  exact (masks_spec ops.toList 0 0 (fun n => by simp) (fun j' _ hj' => by omega) (fun p _ => by simp) j i hi h.2).listed hd oj hj hall
/-- What is loud waits for all that is loud ahead of it. -/
def loudOk2 (md : Region.Mode) (ops : Array Oper) (lou : List Nat) : Nat → Nat → Array Bool → Bool
  | 0, _, _ => true
  | fuel + 1, k, listed => (!lou.contains k || (List.range ops.size).all fun j => j == k || listed.getD j true || reach2 md ops j k || !lou.contains j) && loudOk2 md ops lou fuel (k + 1) (listed.setIfInBounds k true)
theorem loud_spec2 {i : Nat} {listed : Array Bool} (h : ((List.range ops.size).all fun j => j == i || listed.getD j true || reach2 md ops j i || !lou.contains j) = true)
    (j : Nat) (oj : Oper) (hj : ops[j]? = some oj) (hne : j ≠ i) (hun : listed.getD j true = false) (hno : reach2 md ops j i = false) : lou.contains j = false := by
  simp only [List.all_eq_true, List.mem_range] at h
  have h1 := h j (Array.getElem?_eq_some_iff.1 hj).1
  simpa [hne, hun, hno] using h1
def stg (md : Region.Mode) (ops : Array Oper) (lou : List Nat) (j : Nat) : Nat := lou.countP fun k => reach2 md ops j k
def cnt (lou : List Nat) (listed : Array Bool) : Nat := lou.countP fun k => listed.getD k false
theorem stg_le {listed : Array Bool} (hd : Down md ops listed) {j : Nat} {oj : Oper} (hj : ops[j]? = some oj) (hall : ∀ e ∈ oj.after, Region.binds md e = true → listed.getD e.on false = true) : stg md ops lou j ≤ cnt lou listed :=
  List.countP_mono_left fun k _ hk => reach2_listed hd hj hall hk
theorem cnt_quiet {listed : Array Bool} {i : Nat} (hl : lou.contains i = false) : cnt lou (listed.setIfInBounds i true) ≤ cnt lou listed :=
  List.countP_mono_left fun k hk h => by
    by_cases hik : i = k
    · subst hik
      rw [List.contains_iff_mem.2 hk] at hl
      cases hl
    · rwa [getD_set_ne false hik] at h
theorem countP_or (p q : Nat → Bool) (l : List Nat) : l.countP (fun x => p x || q x) ≤ l.countP p + l.countP q := by
  induction l with
  | nil => simp
  | cons x r ih =>
    simp only [List.countP_cons]
    cases p x <;> cases q x <;> simp <;> omega
theorem cnt_loud {listed : Array Bool} {i : Nat} (hn : lou.Nodup) : cnt lou (listed.setIfInBounds i true) ≤ cnt lou listed + 1 := by
  have h1 : cnt lou (listed.setIfInBounds i true) ≤ lou.countP (fun k => listed.getD k false || k == i) := List.countP_mono_left fun k _ h => by
    by_cases hik : i = k
    · simp [hik]
    · rw [getD_set_ne false hik] at h
      rw [h]
      rfl
  have h2 := countP_or (fun k => listed.getD k false) (fun k => k == i) lou
  have h3 : lou.countP (fun k => k == i) ≤ 1 := List.nodup_iff_count.1 hn i
  unfold cnt at *
  omega

def mixOpS (P : Program) (ops : Array Oper) (st : Nat → Nat) (lou : List Nat) (fin : Nat → Bool) (D : Cls) (cur : Nat) (i : Nat) (K : Cls → Nat → Act → World → Prop) (a : Act) (w : World) : Prop :=
  match ops[i]? with
  | none => K D cur a w
  | some o =>
    if lou.contains i then
      if Region.wanted o (yielded ops a.tmps) then o.wp P a w (fun a' w' => ∃ C : World → Prop, (fin i = false → C w' ∧ ∀ s, D s w') ∧ K (ext D cur C) (cur + 1) a' w') none3 else K (ext D cur (D cur)) (cur + 1) (a.put o.dst undef) w
    else ∃ v, Settles P ops (D (st i)) o v a ∧ K D cur (a.put o.dst v) w

theorem mixOpS_up {D : Cls} {cur i : Nat} {a : Act} {w : World} {K K' : Cls → Nat → Act → World → Prop}
    (h : ∀ o, ops[i]? = some o → ∀ D' cur' u ds w', (∀ s, s ≤ cur → D' s = D s) → cur ≤ cur' → (lou.contains i = false → cur' = cur) → cur' ≤ cur + 1 → K D' cur' ({ a with defers := ds }.put o.dst u) w' → K' D' cur' ({ a with defers := ds }.put o.dst u) w')
    (hn : ops[i]? = none → K D cur a w → K' D cur a w) (hh : mixOpS P ops st lou fin D cur i K a w) : mixOpS P ops st lou fin D cur i K' a w := by
  unfold mixOpS at *
  cases ho : ops[i]? with
  | none => simp only [ho] at hh ⊢; exact hn ho hh
  | some o =>
    simp only [ho] at hh ⊢
    split
    · rename_i hl
      simp only [hl, if_true] at hh
      have hlf : lou.contains i = false → cur + 1 = cur := fun e => by rw [hl] at e; cases e
      split
      · rename_i hw
        simp only [hw, if_true] at hh
        exact wp_up (fun u ds w' ⟨C, hc, hk⟩ => ⟨C, hc, h o ho _ _ u ds w' (fun s hs => ext_le hs) (Nat.le_succ _) hlf (Nat.le_refl _) hk⟩) hh
      · rename_i hw
        simp only [hw] at hh
        exact h o ho _ _ undef a.defers w (fun s hs => ext_le hs) (Nat.le_succ _) hlf (Nat.le_refl _) hh
    · rename_i hl
      simp only [hl] at hh
      obtain ⟨v, hs, hk⟩ := hh
      exact ⟨v, hs, h o ho D cur v a.defers w (fun _ _ => rfl) (Nat.le_refl _) (fun _ => rfl) (Nat.le_succ _) hk⟩

theorem mixOpS_put {D : Cls} {cur i j : Nat} {oi oj : Oper} {v : Value} (hj : ops[j]? = some oj) (hap : oi.apart ops oj = true)
    (hsi : ∀ cs b, oi.op ≠ .select cs b) (hsj : ∀ cs b, oj.op ≠ .select cs b) {K : Cls → Nat → Act → World → Prop} {a : Act} {w : World}
    (hst : st i ≤ cur) (hy : Settles P ops (D (st i)) oi v a) (h : mixOpS P ops st lou fin D cur j K (a.put oi.dst v) w) :
    mixOpS P ops st lou fin D cur j (fun D' cur' a' w' => (st i ≤ cur' ∧ Settles P ops (D' (st i)) oi v a') ∧ K D' cur' (a'.put oi.dst v) w') a w := by
  obtain ⟨h1, h2, h3⟩ := Oper.apart_spec hap
  have keep : ∀ u ds, Settles P ops (D (st i)) oi v ({ a with defers := ds }.put oj.dst u) := fun u ds =>
    Settles.of_same (Settles.of_same (a' := { a with defers := ds }) hy rfl rfl) (execOp_put oi hsi _ oj.dst u h3) (wanted_put oi _ oj.dst u h3)
  unfold mixOpS at *
  simp only [hj] at *
  rw [wanted_put oj a oi.dst v h1] at h
  split
  · rename_i hl
    simp only [hl, if_true] at h
    split
    · rename_i hw
      simp only [hw, if_true] at h
      exact wp_up (fun u ds w' ⟨C, hc, hk⟩ => ⟨C, hc, ⟨Nat.le_succ_of_le hst, by rw [ext_le hst]; exact keep u ds⟩, hk⟩) ((wp_put (ops := ops) hsj h1 h2).1 h)
    · rename_i hw
      simp only [hw] at h
      exact ⟨⟨Nat.le_succ_of_le hst, by rw [ext_le hst]; exact keep _ a.defers⟩, by rw [← Act.put_comm a v undef h2]; exact h⟩
  · rename_i hl
    simp only [hl] at h
    obtain ⟨u, hu, hn⟩ := h
    exact ⟨u, hu.of_same (execOp_put oj hsj a oi.dst v h1).symm (wanted_put oj a oi.dst v h1).symm, ⟨hst, keep u a.defers⟩, by rw [← Act.put_comm a v u h2]; exact hn⟩

def wpAnyS (P : Program) (md : Region.Mode) (ops : Array Oper) (st : Nat → Nat) (lou : List Nat) (fin : Nat → Bool) (Q : Act → World → Prop) : Nat → Array Bool → Cls → Nat → Act → World → Prop
  | 0, listed, _, _, a, w => Region.ready md ops listed = [] ∧ Q a w
  | fuel + 1, listed, D, cur, a, w =>
    (Region.ready md ops listed = [] → Q a w) ∧
    ∀ i ∈ Region.ready md ops listed, mixOpS P ops st lou fin D cur i (wpAnyS P md ops st lou fin Q fuel (listed.setIfInBounds i true)) a w

theorem wpOp_of_mixS {D : Cls} {cur i : Nat} {a : Act} {K : Cls → Nat → Act → World → Prop} {K' : Act → World → Prop} {Q' : Exit → Act → World → Prop} {w : World} (hC : ∀ s, D s w)
    (h : ∀ D' cur' a w', (fin i = false → ∀ s, D' s w') → K D' cur' a w' → K' a w') (hh : mixOpS P ops st lou fin D cur i K a w) : wpOp P ops Q' i K' a w := by
  unfold mixOpS at hh
  unfold wpOp
  cases ho : ops[i]? with
  | none => simp only [ho] at hh ⊢; exact h _ _ _ _ (fun _ => hC) hh
  | some o =>
    simp only [ho] at hh ⊢
    split at hh
    · split
      · rename_i hw
        simp only [hw, if_true] at hh
        exact .inl (wp_up (fun u ds w' ⟨C, hc, hk⟩ => h _ _ _ _ (fun hf => ext_all (hc hf).2 (hc hf).1) hk) hh)
      · rename_i hw
        simp only [hw] at hh
        exact h _ _ _ _ (fun _ => ext_all hC (hC cur)) hh
    · obtain ⟨v, hs, hk⟩ := hh
      rcases hs with ⟨hw, hv⟩ | ⟨hw, rfl⟩
      · simp only [hw, if_true]
        refine .inl ?_
        unfold Oper.wp
        rcases hv w (hC _) with hv' | ⟨hv', e⟩ <;> rw [hv']
        · exact h _ _ _ _ (fun _ => hC) hk
        · rw [e] at hk
          exact h _ _ _ _ (fun _ => hC) hk
      · simp only [hw, Bool.false_eq_true, if_false]
        exact h _ _ _ _ (fun _ => hC) hk

theorem wpAny_of_mixS (hfin : Fin md ops fin) {Q : Act → World → Prop} {Q' : Exit → Act → World → Prop} (hQ : ∀ a w, Q a w → Q' .normal a w) : ∀ (fuel : Nat) (listed : Array Bool) (D : Cls) (cur : Nat) (a : Act) (w : World), Down md ops listed → (Region.ready md ops listed ≠ [] → ∀ s, D s w) →
    wpAnyS P md ops st lou fin Q fuel listed D cur a w → wpAny P md ops Q' fuel listed a w
  | 0, _, _, _, _, _, _, _, h => ⟨h.1, hQ _ _ h.2⟩
  | fuel + 1, listed, _, _, _, _, hd, hw, h => ⟨fun h0 => hQ _ _ (h.1 h0), fun i hi => wpOp_of_mixS (hw (fun e => by rw [e] at hi; cases hi)) (fun D' cur' a' w' hw' => wpAny_of_mixS hfin hQ fuel _ D' cur' a' w' (hd.set hi) (fun hne => hw' (by
      cases hf : fin i with
      | false => rfl
      | true => exact absurd (hfin i listed hd hf hi) hne))) (h.2 i hi)⟩

theorem wpAnyS_first {Q : Act → World → Prop} {i : Nat} {oi : Oper} {v : Value} (hi : ops[i]? = some oi) (hli : lou.contains i = false) (hsel : ∀ (j : Nat) (o : Oper) cs b, ops[j]? = some o → o.op ≠ .select cs b) :
    ∀ (fuel : Nat) (listed : Array Bool) (D : Cls) (cur : Nat) (a : Act) (w : World),
      (∀ j oj, ops[j]? = some oj → j ≠ i → listed.getD j true = false → (∀ e ∈ oj.after, Region.binds md e = true → e.on ≠ i) → oi.apart ops oj = true) →
      i ∈ Region.ready md ops listed → st i ≤ cur → Settles P ops (D (st i)) oi v a →
      wpAnyS P md ops st lou fin Q fuel (listed.setIfInBounds i true) D cur (a.put oi.dst v) w → wpAnyS P md ops st lou fin Q (fuel + 1) listed D cur a w := by
  have one : ∀ {K : Cls → Nat → Act → World → Prop} {D : Cls} {cur : Nat} {a : Act} {w : World}, Settles P ops (D (st i)) oi v a → K D cur (a.put oi.dst v) w → mixOpS P ops st lou fin D cur i K a w := fun hy hk => by
    unfold mixOpS
    simp only [hi, hli, Bool.false_eq_true, if_false]
    exact ⟨v, hy, hk⟩
  intro fuel
  induction fuel with
  | zero =>
    intro listed D cur a w _ hr _ hy H
    refine ⟨fun h => (by rw [h] at hr; cases hr), fun j hj => ?_⟩
    by_cases hji : j = i
    · subst hji; exact one hy H
    · have := ready_mono hj hji
      rw [H.1] at this
      cases this
  | succ fuel ih =>
    intro listed D cur a w hfree hr hst hy H
    refine ⟨fun h => (by rw [h] at hr; cases hr), fun j hj => ?_⟩
    by_cases hji : j = i
    · subst hji; exact one hy H
    · have h1 := H.2 j (ready_mono hj hji)
      obtain ⟨hjun, oj, hoj, hall⟩ := mem_ready.1 hj
      have h2 := mixOpS_put hoj (hfree j oj hoj hji hjun (not_waits hr hall)) (fun cs b => hsel i oi cs b hi) (fun cs b => hsel j oj cs b hoj) hst hy h1
      have hfree' : ∀ k ok, ops[k]? = some ok → k ≠ i → (listed.setIfInBounds j true).getD k true = false →
          (∀ e ∈ ok.after, Region.binds md e = true → e.on ≠ i) → oi.apart ops ok = true := fun k ok hk hki hun hno => by
        refine hfree k ok hk hki ?_ hno
        by_cases hjk : j = k
        · subst hjk; exact hjun
        · rw [getD_set_ne true hjk] at hun; exact hun
      refine mixOpS_up (fun o ho D' cur' u ds w' _ _ _ _ h3 => ih (listed.setIfInBounds j true) D' cur' _ w' hfree' (ready_mono hr (Ne.symm hji)) h3.1.1 h3.1.2 ?_) (fun hn => by rw [hoj] at hn; cases hn) h2
      rw [Array.setIfInBounds_comm _ _ hji]
      exact h3.2

theorem mixOpS_some {D : Cls} {cur i : Nat} {oi : Oper} (hi : ops[i]? = some oi) {K : Cls → Nat → Act → World → Prop} {a : Act} {w : World} (h : mixOpS P ops st lou fin D cur i K a w) :
    ∃ D' cur' u ds w', (∀ s, s ≤ cur → D' s = D s) ∧ K D' cur' ({ a with defers := ds }.put oi.dst u) w' := by
  unfold mixOpS at h
  simp only [hi] at h
  split at h
  · split at h
    · unfold Oper.wp at h
      generalize (execOp a.eval oi).run P w = r at h
      cases r with
      | ok n w' =>
        cases n <;> simp only [Oper.upon] at h
        case value u => obtain ⟨C, _, hk⟩ := h; exact ⟨_, _, u, a.defers, w', fun s hs => ext_le hs, hk⟩
        case skip => obtain ⟨C, _, hk⟩ := h; exact ⟨_, _, undef, a.defers, w', fun s hs => ext_le hs, hk⟩
        case defer d => obtain ⟨C, _, hk⟩ := h; exact ⟨_, _, undef, d :: a.defers, w', fun s hs => ext_le hs, hk⟩
        case enter f args =>
          obtain ⟨e, w'', _, he, _⟩ := h []
          cases e with
          | returned u => obtain ⟨C, _, hk⟩ := he; exact ⟨_, _, u, a.defers, w'', fun s hs => ext_le hs, hk⟩
          | panicked c => exact he.elim
          | outgrown => obtain ⟨_, _, hx⟩ := he; exact hx.elim
        case row row args =>
          obtain ⟨v, w'', he, _⟩ := h default []
          obtain ⟨C, _, hk⟩ := he
          exact ⟨_, _, v, a.defers, w'', fun s hs => ext_le hs, hk⟩
      | halt x w' => cases x <;> simp only [Oper.upon] at h; exact h.elim
    · exact ⟨_, _, undef, a.defers, w, fun s hs => ext_le hs, h⟩
  · obtain ⟨v, _, hk⟩ := h
    exact ⟨_, _, v, a.defers, w, fun _ _ => rfl, hk⟩

theorem wpAnyS_loud {Q : Act → World → Prop} {i : Nat} {oi : Oper} (hi : ops[i]? = some oi) (hli : lou.contains i = true) (hsel : ∀ (j : Nat) (o : Oper) cs b, ops[j]? = some o → o.op ≠ .select cs b) :
    ∀ (fuel : Nat) (listed : Array Bool) (D : Cls) (cur : Nat) (a : Act) (w : World), (∀ s, D s w) → Down md ops listed → cnt lou listed ≤ cur →
      (∀ j oj, ops[j]? = some oj → j ≠ i → listed.getD j true = false → (∀ e ∈ oj.after, Region.binds md e = true → e.on ≠ i) → oi.apart ops oj = true) →
      (∀ j oj, ops[j]? = some oj → j ≠ i → listed.getD j true = false → reach2 md ops j i = false → lou.contains j = false) →
      i ∈ Region.ready md ops listed →
      mixOpS P ops (stg md ops lou) lou fin D cur i (wpAnyS P md ops (stg md ops lou) lou fin Q fuel (listed.setIfInBounds i true)) a w → wpAnyS P md ops (stg md ops lou) lou fin Q (fuel + 1) listed D cur a w := by
  intro fuel
  induction fuel with
  | zero =>
    intro listed D cur a w _ _ _ _ _ hr H
    refine ⟨fun h => (by rw [h] at hr; cases hr), fun j hj => ?_⟩
    by_cases hji : j = i
    · subst hji; exact H
    · have := ready_mono hj hji
      obtain ⟨_, _, _, _, _, _, hk⟩ := mixOpS_some hi H
      rw [hk.1] at this
      cases this
  | succ fuel ih =>
    intro listed D cur a w hC hdown hcnt hfree hquiet hr H
    refine ⟨fun h => (by rw [h] at hr; cases hr), fun j hj => ?_⟩
    by_cases hji : j = i
    · subst hji; exact H
    · obtain ⟨hjun, oj, hoj, hall⟩ := mem_ready.1 hj
      have hap := hfree j oj hoj hji hjun (not_waits hr hall)
      have hlj : lou.contains j = false := hquiet j oj hoj hji hjun (by
        cases hre : reach2 md ops j i with
        | false => rfl
        | true => have h1 := reach2_listed hdown hoj hall hre; rw [not_listed hr] at h1; cases h1)
      have hstj : stg md ops lou j ≤ cur := Nat.le_trans (stg_le hdown hoj hall) hcnt
      obtain ⟨h1, h2, h3⟩ := Oper.apart_spec hap
      have hsi := fun cs b => hsel i oi cs b hi
      have hsj := fun cs b => hsel j oj cs b hoj
      have back : ∀ {u : Value} {ds : List Deferred} {x : Value}, Settles P ops (D (stg md ops lou j)) oj x ({ a with defers := ds }.put oi.dst u) → Settles P ops (D (stg md ops lou j)) oj x a := fun hs =>
        Settles.of_same (Settles.of_same hs (execOp_put oj hsj _ oi.dst _ h1).symm (wanted_put oj _ oi.dst _ h1).symm) rfl rfl
      have open_ : ∀ {D' : Cls} {cur' : Nat} {a' : Act} {w' : World}, (∀ s, s ≤ cur → D' s = D s) → wpAnyS P md ops (stg md ops lou) lou fin Q (fuel + 1) (listed.setIfInBounds i true) D' cur' a' w' → ∃ x, Settles P ops (D (stg md ops lou j)) oj x a' ∧ wpAnyS P md ops (stg md ops lou) lou fin Q fuel ((listed.setIfInBounds i true).setIfInBounds j true) D' cur' (a'.put oj.dst x) w' := fun he hk => by
        have := hk.2 j (ready_mono hj hji)
        unfold mixOpS at this
        simp only [hoj, hlj, Bool.false_eq_true, if_false] at this
        rw [he _ hstj] at this
        exact this
      obtain ⟨D0, c0, u0, ds0, w0, he0, hk0⟩ := mixOpS_some hi H
      obtain ⟨x, hx, _⟩ := open_ he0 hk0
      have hx0 := back hx
      have goal2 : wpAnyS P md ops (stg md ops lou) lou fin Q (fuel + 1) (listed.setIfInBounds j true) D cur (a.put oj.dst x) w := by
        refine ih (listed.setIfInBounds j true) D cur (a.put oj.dst x) w hC (hdown.set hj) (Nat.le_trans (cnt_quiet hlj) hcnt) (fun k ok hk hki hun hno => ?_) (fun k ok hk hki hun hno => ?_) (ready_mono hr (Ne.symm hji)) ?_
        · refine hfree k ok hk hki ?_ hno
          by_cases hjk : j = k
          · subst hjk; exact hjun
          · rw [getD_set_ne true hjk] at hun; exact hun
        · refine hquiet k ok hk hki ?_ hno
          by_cases hjk : j = k
          · subst hjk; exact hjun
          · rw [getD_set_ne true hjk] at hun; exact hun
        · have H2 : mixOpS P ops (stg md ops lou) lou fin D cur i (fun D' cur' a' w' => wpAnyS P md ops (stg md ops lou) lou fin Q fuel ((listed.setIfInBounds j true).setIfInBounds i true) D' cur' (a'.put oj.dst x) w') a w := by
            refine mixOpS_up (fun o ho D' cur' u ds w' he _ _ _ hk => ?_) (fun hn => by rw [hi] at hn; cases hn) H
            rw [hi] at ho
            cases ho
            obtain ⟨y, hy, hk2⟩ := open_ he hk
            have e := Settles.one (hC _) (back hy) hx0
            subst e
            rw [Array.setIfInBounds_comm _ _ hji]
            exact hk2
          have h2' : ∀ t, oj.dst = some t → oi.dst ≠ some t := fun t ht hd => h2 t hd ht
          unfold mixOpS at H2 ⊢
          simp only [hi, hli, if_true] at H2 ⊢
          rw [wanted_put oi a oj.dst x h3]
          split
          · rename_i hw
            simp only [hw, if_true] at H2
            exact (wp_put (ops := ops) hsi h3 h2').2 H2
          · rename_i hw
            simp only [hw] at H2
            show wpAnyS _ _ _ _ _ _ _ _ _ _ _ _ _
            rw [Act.put_comm a x undef h2']
            exact H2
      unfold mixOpS
      simp only [hoj, hlj, Bool.false_eq_true, if_false]
      exact ⟨x, hx0, goal2⟩

/-- The walk in the order of the text. -/
def wpMixS (P : Program) (ops : Array Oper) (st : Nat → Nat) (lou : List Nat) (fin : Nat → Bool) (Q : Act → World → Prop) : Nat → List Oper → Cls → Nat → Act → World → Prop
  | _, [], _, _, a, w => Q a w
  | k, o :: rest, D, cur, a, w =>
    if lou.contains k then
      if Region.wanted o (yielded ops a.tmps) then o.wp P a w (fun a' w' => ∃ C : World → Prop, (fin k = false → C w' ∧ ∀ s, D s w') ∧ wpMixS P ops st lou fin Q (k + 1) rest (ext D cur C) (cur + 1) a' w') none3 else wpMixS P ops st lou fin Q (k + 1) rest (ext D cur (D cur)) (cur + 1) (a.put o.dst undef) w
    else if Region.wanted o (yielded ops a.tmps) then ∃ v, Still1 P (D (st k)) o v a ∧ wpMixS P ops st lou fin Q (k + 1) rest D cur (a.put o.dst v) w else wpMixS P ops st lou fin Q (k + 1) rest D cur (a.put o.dst undef) w

theorem wpAnyS_lex {Q : Act → World → Prop} (hs : Region.noSelect ops = true) (hn : lou.Nodup) (hfl : ∀ k, fin k = true → k + 1 = ops.size) : ∀ (l : List Oper) (k : Nat) (listed : Array Bool) (D : Cls) (cur : Nat) (a : Act) (w : World), (l ≠ [] → ∀ s, D s w) → Down md ops listed → cnt lou listed ≤ cur → (∀ j, l[j]? = ops[k + j]?) →
    Region.lexFrom md ops l.length k listed = true → loudOk2 md ops lou l.length k listed = true → wpMixS P ops (stg md ops lou) lou fin Q k l D cur a w → wpAnyS P md ops (stg md ops lou) lou fin Q l.length listed D cur a w
  | [], _, _, _, _, _, _, _, _, _, _, hB, _, h => ⟨by simpa [Region.lexFrom] using hB, h⟩
  | o :: l, k, listed, D, cur, a, w, hC0, hdown, hcnt, hl, hB, hL, h => by
    have hC := hC0 (by simp)
    have h0 : ops[k]? = some o := by simpa using (hl 0).symm
    simp only [List.length_cons, Region.lexFrom, Bool.and_eq_true] at hB
    obtain ⟨⟨hr, hf⟩, hB'⟩ := hB
    simp only [List.length_cons, loudOk2, Bool.and_eq_true, Bool.or_eq_true, Bool.not_eq_true'] at hL
    obtain ⟨hl1, hL'⟩ := hL
    have last : fin k = true → l = [] := fun hk => by
      have h1 := hl 1
      rw [Array.getElem?_eq_none (by have := hfl k hk; omega)] at h1
      cases l with
      | nil => rfl
      | cons x y => simp at h1
    have next := fun (D' : Cls) (cur' : Nat) (a' : Act) (w' : World) (hc : fin k = false → ∀ s, D' s w') (hcn : cnt lou (listed.setIfInBounds k true) ≤ cur') (hk : wpMixS P ops (stg md ops lou) lou fin Q (k + 1) l D' cur' a' w') =>
      wpAnyS_lex (Q := Q) hs hn hfl l (k + 1) (listed.setIfInBounds k true) D' cur' a' w' (fun hne => hc (by
        cases hf' : fin k with
        | false => rfl
        | true => exact absurd (last hf') hne)) (hdown.set (by simpa using hr)) hcn (fun j => by have := hl (j + 1); simpa [Nat.add_assoc, Nat.add_comm 1 j] using this) hB' hL' hk
    unfold wpMixS at h
    by_cases hlk : lou.contains k = true
    · simp only [hlk, if_true] at h
      have hl2 := hl1.resolve_left (by rw [hlk]; simp)
      have hcn : cnt lou (listed.setIfInBounds k true) ≤ cur + 1 := Nat.le_trans (cnt_loud hn) (Nat.succ_le_succ hcnt)
      refine wpAnyS_loud h0 hlk (Region.noSelect_spec hs) l.length listed D cur a w hC hdown hcnt (Region.free_spec h0 hf) (loud_spec2 hl2) (by simpa using hr) ?_
      unfold mixOpS
      simp only [h0, hlk, if_true]
      split
      · rename_i hw
        simp only [hw, if_true] at h
        exact wp_up (fun u ds w' ⟨C, hc, hk⟩ => ⟨C, hc, next _ _ _ _ (fun hfk => ext_all (hc hfk).2 (hc hfk).1) hcn hk⟩) h
      · rename_i hw
        simp only [hw] at h
        exact next _ _ _ _ (fun _ => ext_all hC (hC cur)) hcn h
    · have hlk' : lou.contains k = false := by simpa using hlk
      simp only [hlk', Bool.false_eq_true, if_false] at h
      have hcn : cnt lou (listed.setIfInBounds k true) ≤ cur := Nat.le_trans (cnt_quiet hlk') hcnt
      have hready : k ∈ Region.ready md ops listed := by simpa using hr
      obtain ⟨_, o', ho', hall⟩ := mem_ready.1 hready
      rw [h0] at ho'
      cases ho'
      have hstk := Nat.le_trans (stg_le (lou := lou) hdown h0 hall) hcnt
      by_cases hw : Region.wanted o (yielded ops a.tmps) = true
      · simp only [hw, if_true] at h
        obtain ⟨v, hv, hk⟩ := h
        exact wpAnyS_first h0 hlk' (Region.noSelect_spec hs) l.length listed D cur a w (Region.free_spec h0 hf) hready hstk (.inl ⟨hw, hv⟩) (next _ _ _ _ (fun _ => hC) hcn hk)
      · simp only [hw, if_false] at h
        exact wpAnyS_first h0 hlk' (Region.noSelect_spec hs) l.length listed D cur a w (Region.free_spec h0 hf) hready hstk (.inr ⟨by simpa using hw, rfl⟩) (next _ _ _ _ (fun _ => hC) hcn h)

theorem wp_mixs {id : Nat} {Q : Exit → Act → World → Prop} {a : Act} {w : World} {l : List Oper} (C : World → Prop) (lou : List Nat) (hm : P.follows .mixedOrders = true) (hB : Region.lexB .any l.toArray = true)
    (hL : loudOk2 .any l.toArray lou l.length 0 (Array.replicate l.length false) = true) (hn : lou.Nodup) (hC : C w.drew)
    (h : wpMixS P l.toArray (stg .any l.toArray lou) lou (fun _ => false) (fun a' w' => Q .normal a' w') 0 l (fun _ => C) 0 a w.drew) : (Code.region id l.toArray true).wp P Q a w := by
  simp only [Region.lexB, Bool.and_eq_true] at hB
  refine wp_region_any hm (wpAny_of_mixS (st := stg .any l.toArray lou) (lou := lou) (fin := fun _ => false) (fun _ _ _ h => by cases h) (Q := fun a' w' => Q .normal a' w') (fun _ _ h => h) _ _ (fun _ => C) 0 _ _ (down_start _) (fun _ _ => hC) ?_)
  have hz : cnt lou (Array.replicate l.toArray.size false) ≤ 0 := by
    unfold cnt
    rw [List.countP_eq_zero.2]
    · exact Nat.le_refl _
    · intro k _
      rcases Nat.lt_or_ge k l.toArray.size with h' | h' <;> simp at h' ⊢ <;> simp [h']
  have := wpAnyS_lex (P := P) (md := .any) (fin := fun _ => false) hB.1 hn (fun _ h => by cases h) l 0 (Array.replicate l.toArray.size false) (fun _ => C) 0 a w.drew (fun _ _ => hC) (down_start _) hz (by simp) (by simpa using hB.2) (by simpa using hL) h
  simpa using this

/-- The steps. -/
theorem mixs_nil {Q : Act → World → Prop} {k : Nat} {D : Cls} {cur : Nat} {a : Act} {w : World} (h : Q a w) : wpMixS P ops st lou fin Q k [] D cur a w := h
theorem mixsq {Q : Act → World → Prop} {k : Nat} {o : Oper} {rest : List Oper} {D : Cls} {cur : Nat} {a : Act} {w : World} (hl : lou.contains k = false) (hg : o.guard = none) (s : Nat) (hs : st k = s) (v : Value) (hv : Still1 P (D s) o v a)
    (h : ∀ K : Act → Prop, (∀ a, wpMixS P ops st lou fin Q (k + 1) rest D cur a w → K a) → K (a.put o.dst v)) : wpMixS P ops st lou fin Q k (o :: rest) D cur a w := by
  unfold wpMixS
  rw [if_neg (by simp only [hl, Bool.false_eq_true, not_false_iff]), if_pos (by simp [Region.wanted, hg]), hs]
  exact ⟨v, hv, h _ fun _ h => h⟩
theorem mixsl {Q : Act → World → Prop} {k : Nat} {o : Oper} {rest : List Oper} {D : Cls} {cur : Nat} {a : Act} {w : World} (hl : lou.contains k = true) (hg : o.guard = none)
    (h : ∀ K : Act → World → Prop, (∀ (C : World → Prop) a w, (fin k = false → C w ∧ ∀ s, D s w) → wpMixS P ops st lou fin Q (k + 1) rest (ext D cur C) (cur + 1) a w → K a w) → o.wp P a w K none3) : wpMixS P ops st lou fin Q k (o :: rest) D cur a w := by
  unfold wpMixS
  rw [if_pos hl, if_pos (by simp [Region.wanted, hg])]
  exact h _ fun C _ _ h1 h2 => ⟨C, h1, h2⟩
theorem mixsq_yes {Q : Act → World → Prop} {k : Nat} {o : Oper} {rest : List Oper} {D : Cls} {cur : Nat} {a : Act} {w : World} (hl : lou.contains k = false) (hg : Region.wanted o (yielded ops a.tmps) = true) (s : Nat) (hs : st k = s) (v : Value) (hv : Still1 P (D s) o v a)
    (h : ∀ K : Act → Prop, (∀ a, wpMixS P ops st lou fin Q (k + 1) rest D cur a w → K a) → K (a.put o.dst v)) : wpMixS P ops st lou fin Q k (o :: rest) D cur a w := by
  unfold wpMixS
  rw [if_neg (by simp only [hl, Bool.false_eq_true, not_false_iff]), if_pos hg, hs]
  exact ⟨v, hv, h _ fun _ h => h⟩
theorem mixsq_no {Q : Act → World → Prop} {k : Nat} {o : Oper} {rest : List Oper} {D : Cls} {cur : Nat} {a : Act} {w : World} (hl : lou.contains k = false) (hg : Region.wanted o (yielded ops a.tmps) = false)
    (h : ∀ K : Act → Prop, (∀ a, wpMixS P ops st lou fin Q (k + 1) rest D cur a w → K a) → K (a.put o.dst undef)) : wpMixS P ops st lou fin Q k (o :: rest) D cur a w := by
  unfold wpMixS
  rw [if_neg (by simp only [hl, Bool.false_eq_true, not_false_iff]), if_neg (by simp only [hg, Bool.false_eq_true, not_false_iff])]
  exact h _ fun _ h => h
theorem mixsl_yes {Q : Act → World → Prop} {k : Nat} {o : Oper} {rest : List Oper} {D : Cls} {cur : Nat} {a : Act} {w : World} (hl : lou.contains k = true) (hg : Region.wanted o (yielded ops a.tmps) = true)
    (h : ∀ K : Act → World → Prop, (∀ (C : World → Prop) a w, (fin k = false → C w ∧ ∀ s, D s w) → wpMixS P ops st lou fin Q (k + 1) rest (ext D cur C) (cur + 1) a w → K a w) → o.wp P a w K none3) : wpMixS P ops st lou fin Q k (o :: rest) D cur a w := by
  unfold wpMixS
  rw [if_pos hl, if_pos hg]
  exact h _ fun C _ _ h1 h2 => ⟨C, h1, h2⟩
theorem mixsl_no {Q : Act → World → Prop} {k : Nat} {o : Oper} {rest : List Oper} {D : Cls} {cur : Nat} {a : Act} {w : World} (hl : lou.contains k = true) (hg : Region.wanted o (yielded ops a.tmps) = false)
    (h : ∀ K : Act → Prop, (∀ a, wpMixS P ops st lou fin Q (k + 1) rest (ext D cur (D cur)) (cur + 1) a w → K a) → K (a.put o.dst undef)) : wpMixS P ops st lou fin Q k (o :: rest) D cur a w := by
  unfold wpMixS
  rw [if_pos hl, if_neg (by simp only [hg, Bool.false_eq_true, not_false_iff])]
  exact h _ fun _ h => h
end
end Go.Proofs.Ytefbmbfhhhjgkaa
