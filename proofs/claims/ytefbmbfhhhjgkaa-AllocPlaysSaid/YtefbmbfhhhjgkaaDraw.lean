/-
  A region that draws its order: one walk in the order of the text serves every order, where what changes the world ('loud') is ordered, and all else yields one value in every world of a class C that the loud operations keep.
-/
import Derived.Test.YtefbmbfhhhjgkaaMem
import Derived.Deep.Quiet
namespace Go.Proofs.Ytefbmbfhhhjgkaa
section
variable {P : Program} {ops : Array Oper} {md : Region.Mode} {C : World → Prop} {lou : List Nat} {fin : Nat → Bool}

def Still1 (P : Program) (C : World → Prop) (o : Oper) (v : Value) (a : Act) : Prop :=
  ∀ w, C w → ((execOp a.eval o).run P w = .ok (.value v) w ∨ ((execOp a.eval o).run P w = .ok .skip w ∧ v = undef))

def Settles (P : Program) (ops : Array Oper) (C : World → Prop) (o : Oper) (v : Value) (a : Act) : Prop :=
  (Region.wanted o (yielded ops a.tmps) = true ∧ Still1 P C o v a) ∨ (Region.wanted o (yielded ops a.tmps) = false ∧ v = undef)

theorem Settles.of_same {o : Oper} {v : Value} {a a' : Act} (hy : Settles P ops C o v a) (he : execOp a'.eval o = execOp a.eval o)
    (hw : Region.wanted o (yielded ops a'.tmps) = Region.wanted o (yielded ops a.tmps)) : Settles P ops C o v a' := by
  unfold Settles Still1 at *
  rw [he, hw]
  exact hy

theorem Settles.one {o : Oper} {v u : Value} {a : Act} {w : World} (hC : C w) (h : Settles P ops C o v a) (k : Settles P ops C o u a) : v = u := by
  rcases h with ⟨hw, h⟩ | ⟨hw, rfl⟩ <;> rcases k with ⟨kw, k⟩ | ⟨kw, rfl⟩
  · rcases h w hC with h' | ⟨h', e⟩ <;> rcases k w hC with k' | ⟨k', e'⟩ <;> rw [h'] at k'
    · injection k' with k'; injection k'
    · cases k'
    · cases k'
    · rw [e, e']
  · rw [hw] at kw; cases kw
  · rw [hw] at kw; cases kw
  · rfl

def none3 : Exit → Act → World → Prop := fun _ _ _ => False

/-- Operation number i comes up. -/
def mixOp (P : Program) (ops : Array Oper) (C : World → Prop) (lou : List Nat) (fin : Nat → Bool) (i : Nat) (K : Act → World → Prop) (a : Act) (w : World) : Prop :=
  match ops[i]? with
  | none => K a w
  | some o =>
    if lou.contains i then
      if Region.wanted o (yielded ops a.tmps) then o.wp P a w (fun a' w' => (fin i = false → C w') ∧ K a' w') none3 else K (a.put o.dst undef) w
    else ∃ v, Settles P ops C o v a ∧ K (a.put o.dst v) w

theorem wp_up {o : Oper} {a : Act} {w : World} {K K' : Act → World → Prop} {Q : Exit → Act → World → Prop} (h : ∀ u ds w', K ({ a with defers := ds }.put o.dst u) w' → K' ({ a with defers := ds }.put o.dst u) w') (hh : o.wp P a w K none3) : o.wp P a w K' Q := by
  unfold Oper.wp at *
  generalize (execOp a.eval o).run P w = r at *
  cases r with
  | ok n w' =>
    cases n <;> simp only [Oper.upon] at hh ⊢
    case value u => exact h u a.defers w' hh
    case skip => exact h undef a.defers w' hh
    case defer d => exact h undef (d :: a.defers) w' hh
    case enter f args =>
      refine Calls.mono hh fun e w'' he => ?_
      cases e with
      | returned u => exact h u a.defers w'' he
      | panicked c => exact he.elim
      | outgrown => obtain ⟨_, _, hx⟩ := he; exact hx.elim
    case row row args => exact Rows.mono hh fun u w'' he => h u a.defers w'' he
  | halt x w' => cases x <;> simp only [Oper.upon] at hh; exact hh.elim

theorem mixOp_up {i : Nat} {a : Act} {w : World} {K K' : Act → World → Prop} (h : ∀ o, ops[i]? = some o → ∀ u ds w', K ({ a with defers := ds }.put o.dst u) w' → K' ({ a with defers := ds }.put o.dst u) w') (hn : ops[i]? = none → K a w → K' a w) (hh : mixOp P ops C lou fin i K a w) : mixOp P ops C lou fin i K' a w := by
  unfold mixOp at *
  cases ho : ops[i]? with
  | none => simp only [ho] at hh ⊢; exact hn ho hh
  | some o =>
    simp only [ho] at hh ⊢
    split
    · rename_i hl
      simp only [hl, if_true] at hh
      split
      · rename_i hw
        simp only [hw, if_true] at hh
        exact wp_up (fun u ds w' ⟨hc, hk⟩ => ⟨hc, h o ho u ds w' hk⟩) hh
      · rename_i hw
        simp only [hw] at hh
        exact h o ho undef a.defers w hh
    · rename_i hl
      simp only [hl] at hh
      obtain ⟨v, h1, h2⟩ := hh
      exact ⟨v, h1, h o ho v a.defers w h2⟩

theorem mixOp_mono {i : Nat} {a : Act} {w : World} {K K' : Act → World → Prop} (h : ∀ a w, K a w → K' a w) (hh : mixOp P ops C lou fin i K a w) : mixOp P ops C lou fin i K' a w :=
  mixOp_up (fun _ _ _ _ _ => h _ _) (fun _ => h _ _) hh

theorem put_def (a : Act) (d : Option Tmp) (v : Value) (x : Deferred) : ({ a.put d v with defers := x :: (a.put d v).defers } : Act) = ({ a with defers := x :: a.defers } : Act).put d v := by cases d <;> rfl
/-- The frame in which another operation's value already stands. -/
theorem wp_put {o : Oper} (hs : ∀ cs b, o.op ≠ .select cs b) {a : Act} {w : World} {d : Option Tmp} {v : Value} {K : Act → World → Prop}
    (h1 : ∀ t, d = some t → t ∉ o.looksAt ops) (h2 : ∀ t, d = some t → o.dst ≠ some t) : o.wp P (a.put d v) w K none3 ↔ o.wp P a w (fun a' w' => K (a'.put d v) w') none3 := by
  unfold Oper.wp
  rw [execOp_put o hs a d v h1]
  generalize (execOp a.eval o).run P w = r
  cases r with
  | ok n w' =>
    cases n <;> simp only [Oper.upon]
    case value u => rw [Act.put_comm a v u h2]
    case skip => rw [Act.put_comm a v undef h2]
    case defer x => rw [put_def, Act.put_comm _ v undef h2]
    case enter f args =>
      constructor <;> intro h <;> refine Calls.mono h fun e w'' he => ?_ <;> cases e <;> first | (rename_i u; first | (show K _ _; rw [← Act.put_comm a v u h2]; exact he) | (show K _ _; rw [Act.put_comm a v u h2]; exact he)) | exact he
    case row row args =>
      constructor <;> intro h <;> refine Rows.mono h fun u w'' he => ?_ <;> first | (rw [← Act.put_comm a v u h2]; exact he) | (rw [Act.put_comm a v u h2]; exact he)
  | halt x w' => cases x <;> simp only [Oper.upon, none3]

theorem mixOp_put {j : Nat} {oi oj : Oper} {v : Value} (hj : ops[j]? = some oj) (hap : oi.apart ops oj = true)
    (hsi : ∀ cs b, oi.op ≠ .select cs b) (hsj : ∀ cs b, oj.op ≠ .select cs b) {K : Act → World → Prop} {a : Act} {w : World}
    (hy : Settles P ops C oi v a) (h : mixOp P ops C lou fin j K (a.put oi.dst v) w) :
    mixOp P ops C lou fin j (fun a' w' => Settles P ops C oi v a' ∧ K (a'.put oi.dst v) w') a w := by
  obtain ⟨h1, h2, h3⟩ := Oper.apart_spec hap
  have keep : ∀ u ds, Settles P ops C oi v ({ a with defers := ds }.put oj.dst u) := fun u ds =>
    Settles.of_same (Settles.of_same (a' := { a with defers := ds }) hy rfl rfl) (execOp_put oi hsi _ oj.dst u h3) (wanted_put oi _ oj.dst u h3)
  unfold mixOp at *
  simp only [hj] at *
  rw [wanted_put oj a oi.dst v h1] at h
  split
  · rename_i hl
    simp only [hl, if_true] at h
    split
    · rename_i hw
      simp only [hw, if_true] at h
      exact wp_up (fun u ds w' ⟨hc, hk⟩ => ⟨hc, keep u ds, hk⟩) ((wp_put (ops := ops) hsj h1 h2).1 h)
    · rename_i hw
      simp only [hw] at h
      exact ⟨keep _ a.defers, by rw [← Act.put_comm a v undef h2]; exact h⟩
  · rename_i hl
    simp only [hl] at h
    obtain ⟨u, hu, hn⟩ := h
    exact ⟨u, hu.of_same (execOp_put oj hsj a oi.dst v h1).symm (wanted_put oj a oi.dst v h1).symm, keep u a.defers, by rw [← Act.put_comm a v u h2]; exact hn⟩

/-- Whatever order is picked from here on. -/
def wpAnyM (P : Program) (md : Region.Mode) (ops : Array Oper) (C : World → Prop) (lou : List Nat) (fin : Nat → Bool) (Q : Act → World → Prop) : Nat → Array Bool → Act → World → Prop
  | 0, listed, a, w => Region.ready md ops listed = [] ∧ Q a w
  | fuel + 1, listed, a, w =>
    (Region.ready md ops listed = [] → Q a w) ∧
    ∀ i ∈ Region.ready md ops listed, mixOp P ops C lou fin i (wpAnyM P md ops C lou fin Q fuel (listed.setIfInBounds i true)) a w

theorem wpOp_of_mix {i : Nat} {a : Act} {K K' : Act → World → Prop} {Q' : Exit → Act → World → Prop} {w : World} (hC : C w) (h : ∀ a w', (fin i = false → C w') → K a w' → K' a w') (hh : mixOp P ops C lou fin i K a w) : wpOp P ops Q' i K' a w := by
  unfold mixOp at hh
  unfold wpOp
  cases ho : ops[i]? with
  | none => simp only [ho] at hh ⊢; exact h _ _ (fun _ => hC) hh
  | some o =>
    simp only [ho] at hh ⊢
    split at hh
    · split
      · rename_i hw
        simp only [hw, if_true] at hh
        exact .inl (wp_up (fun u ds w' ⟨hc, hk⟩ => h _ _ hc hk) hh)
      · rename_i hw
        simp only [hw] at hh
        exact h _ _ (fun _ => hC) hh
    · obtain ⟨v, hs, hk⟩ := hh
      rcases hs with ⟨hw, hv⟩ | ⟨hw, rfl⟩
      · simp only [hw, if_true]
        refine .inl ?_
        unfold Oper.wp
        rcases hv w hC with hv' | ⟨hv', e⟩ <;> rw [hv']
        · exact h _ _ (fun _ => hC) hk
        · rw [e] at hk
          exact h _ _ (fun _ => hC) hk
      · simp only [hw, Bool.false_eq_true, if_false]
        exact h _ _ (fun _ => hC) hk

/-- What is listed, all that it waits for is listed. -/
def Down (md : Region.Mode) (ops : Array Oper) (listed : Array Bool) : Prop := ∀ (i : Nat) (o : Oper), ops[i]? = some o → listed.getD i false = true → ∀ e ∈ o.after, Region.binds md e = true → listed.getD e.on false = true
theorem Down.set {listed : Array Bool} {i : Nat} (h : Down md ops listed) (hi : i ∈ Region.ready md ops listed) : Down md ops (listed.setIfInBounds i true) := by
  intro j o hj hl e he hb
  by_cases hij : i = j
  · subst hij
    obtain ⟨_, o', ho', hall⟩ := mem_ready.1 hi
    rw [hj] at ho'
    cases ho'
    exact getD_set_true (hall e he hb)
  · rw [getD_set_ne false hij] at hl
    exact getD_set_true (h j o hj hl e he hb)
theorem down_start (n : Nat) : Down md ops (Array.replicate n false) := by
  intro i o _ hl
  exfalso
  rcases Nat.lt_or_ge i n with h' | h'
  · simp [h'] at hl
  · simp [h'] at hl

/-- The last operation waits for all others. -/
def Fin (md : Region.Mode) (ops : Array Oper) (fin : Nat → Bool) : Prop := ∀ (i : Nat) (listed : Array Bool), Down md ops listed → fin i = true → i ∈ Region.ready md ops listed → Region.ready md ops (listed.setIfInBounds i true) = []

theorem wpAny_of_mix (hfin : Fin md ops fin) {Q : Act → World → Prop} {Q' : Exit → Act → World → Prop} (hQ : ∀ a w, Q a w → Q' .normal a w) : ∀ (fuel : Nat) (listed : Array Bool) (a : Act) (w : World), Down md ops listed → (Region.ready md ops listed ≠ [] → C w) →
    wpAnyM P md ops C lou fin Q fuel listed a w → wpAny P md ops Q' fuel listed a w
  | 0, _, _, _, _, _, h => ⟨h.1, hQ _ _ h.2⟩
  | fuel + 1, listed, _, _, hd, hw, h => ⟨fun h0 => hQ _ _ (h.1 h0), fun i hi => wpOp_of_mix (hw (fun e => by rw [e] at hi; cases hi)) (fun a' w' hw' => wpAny_of_mix hfin hQ fuel _ a' w' (hd.set hi) (fun hne => hw' (by
      cases hf : fin i with
      | false => rfl
      | true => exact absurd (hfin i listed hd hf hi) hne))) (h.2 i hi)⟩
/-- Does operation j wait for i, at once or through others? -/
def reach (md : Region.Mode) (ops : Array Oper) : Nat → Nat → Nat → Bool
  | 0, _, _ => false
  | f + 1, j, i => match ops[j]? with
    | some o => o.after.any fun e => Region.binds md e && (e.on == i || reach md ops f e.on i)
    | none => false
theorem reach_listed {listed : Array Bool} {i : Nat} (hd : Down md ops listed) : ∀ (f j : Nat) (oj : Oper), ops[j]? = some oj → (∀ e ∈ oj.after, Region.binds md e = true → listed.getD e.on false = true) → reach md ops f j i = true → listed.getD i false = true
  | 0, _, _, _, _, h => by simp [reach] at h
  | f + 1, j, oj, hj, hall, h => by
    simp only [reach, hj] at h
    obtain ⟨e, he, hb⟩ := Array.any_eq_true'.1 h
    simp only [Bool.and_eq_true, Bool.or_eq_true, beq_iff_eq] at hb
    obtain ⟨hb1, hb2⟩ := hb
    have hl := hall e he hb1
    rcases hb2 with rfl | hb2
    · exact hl
    · cases ho : ops[e.on]? with
      | none => cases f <;> simp [reach, ho] at hb2
      | some o' => exact reach_listed hd f e.on o' ho (hd e.on o' ho hl) hb2
theorem not_listed {listed : Array Bool} {i : Nat} (hr : i ∈ Region.ready md ops listed) : listed.getD i false = false := by
  have h0 := (mem_ready.1 hr).1
  rcases Nat.lt_or_ge i listed.size with h' | h'
  · simp [h'] at h0 ⊢; exact h0
  · simp [Array.getElem?_eq_none h'] at h0

theorem not_waits {i : Nat} {oj : Oper} {listed : Array Bool} (hr : i ∈ Region.ready md ops listed) (hall : ∀ e ∈ oj.after, Region.binds md e = true → listed.getD e.on false = true) :
    ∀ e ∈ oj.after, Region.binds md e = true → e.on ≠ i := fun e he hb heq => by
  have h1 := hall e he hb
  have h0 := (mem_ready.1 hr).1
  rw [heq] at h1
  rcases Nat.lt_or_ge i listed.size with h' | h'
  · simp [h'] at h0 h1; rw [h0] at h1; cases h1
  · simp [Array.getElem?_eq_none h'] at h1

theorem wpAnyM_first {Q : Act → World → Prop} {i : Nat} {oi : Oper} {v : Value} (hi : ops[i]? = some oi) (hli : lou.contains i = false) (hsel : ∀ (j : Nat) (o : Oper) cs b, ops[j]? = some o → o.op ≠ .select cs b) :
    ∀ (fuel : Nat) (listed : Array Bool) (a : Act) (w : World),
      (∀ j oj, ops[j]? = some oj → j ≠ i → listed.getD j true = false → (∀ e ∈ oj.after, Region.binds md e = true → e.on ≠ i) → oi.apart ops oj = true) →
      i ∈ Region.ready md ops listed → Settles P ops C oi v a →
      wpAnyM P md ops C lou fin Q fuel (listed.setIfInBounds i true) (a.put oi.dst v) w → wpAnyM P md ops C lou fin Q (fuel + 1) listed a w := by
  have one : ∀ {K : Act → World → Prop} {a : Act} {w : World}, Settles P ops C oi v a → K (a.put oi.dst v) w → mixOp P ops C lou fin i K a w := fun hy hk => by
    unfold mixOp
    simp only [hi, hli, Bool.false_eq_true, if_false]
    exact ⟨v, hy, hk⟩
  intro fuel
  induction fuel with
  | zero =>
    intro listed a w _ hr hy H
    refine ⟨fun h => (by rw [h] at hr; cases hr), fun j hj => ?_⟩
    by_cases hji : j = i
    · subst hji; exact one hy H
    · have := ready_mono hj hji
      rw [H.1] at this
      cases this
  | succ fuel ih =>
    intro listed a w hfree hr hy H
    refine ⟨fun h => (by rw [h] at hr; cases hr), fun j hj => ?_⟩
    by_cases hji : j = i
    · subst hji; exact one hy H
    · have h1 := H.2 j (ready_mono hj hji)
      obtain ⟨hjun, oj, hoj, hall⟩ := mem_ready.1 hj
      have h2 := mixOp_put hoj (hfree j oj hoj hji hjun (not_waits hr hall)) (fun cs b => hsel i oi cs b hi) (fun cs b => hsel j oj cs b hoj) hy h1
      have hfree' : ∀ k ok, ops[k]? = some ok → k ≠ i → (listed.setIfInBounds j true).getD k true = false →
          (∀ e ∈ ok.after, Region.binds md e = true → e.on ≠ i) → oi.apart ops ok = true := fun k ok hk hki hun hno => by
        refine hfree k ok hk hki ?_ hno
        by_cases hjk : j = k
        · subst hjk; exact hjun
        · rw [getD_set_ne true hjk] at hun; exact hun
      refine mixOp_mono (fun a' w' h3 => ih (listed.setIfInBounds j true) a' w' hfree' (ready_mono hr (Ne.symm hji)) h3.1 ?_) h2
      rw [Array.setIfInBounds_comm _ _ hji]
      exact h3.2

/-- Some outcome there is. -/
theorem mixOp_some {i : Nat} {oi : Oper} (hi : ops[i]? = some oi) {K : Act → World → Prop} {a : Act} {w : World} (h : mixOp P ops C lou fin i K a w) : ∃ u ds w', K ({ a with defers := ds }.put oi.dst u) w' := by
  unfold mixOp at h
  simp only [hi] at h
  split at h
  · split at h
    · unfold Oper.wp at h
      generalize (execOp a.eval oi).run P w = r at h
      cases r with
      | ok n w' =>
        cases n <;> simp only [Oper.upon] at h
        case value u => exact ⟨u, a.defers, w', h.2⟩
        case skip => exact ⟨undef, a.defers, w', h.2⟩
        case defer d => exact ⟨undef, d :: a.defers, w', h.2⟩
        case enter f args =>
          obtain ⟨e, w'', _, he, _⟩ := h []
          cases e with
          | returned u => exact ⟨u, a.defers, w'', he.2⟩
          | panicked c => exact he.elim
          | outgrown => obtain ⟨_, _, hx⟩ := he; exact hx.elim
        case row row args =>
          obtain ⟨v, w'', he, _⟩ := h default []
          exact ⟨v, a.defers, w'', he.2⟩
      | halt x w' => cases x <;> simp only [Oper.upon] at h; exact h.elim
    · exact ⟨undef, a.defers, w, h⟩
  · obtain ⟨v, _, hk⟩ := h
    exact ⟨v, a.defers, w, hk⟩

theorem wpAnyM_loud {Q : Act → World → Prop} {i : Nat} {oi : Oper} (hi : ops[i]? = some oi) (hli : lou.contains i = true) (hsel : ∀ (j : Nat) (o : Oper) cs b, ops[j]? = some o → o.op ≠ .select cs b) :
    ∀ (fuel : Nat) (listed : Array Bool) (a : Act) (w : World), C w → Down md ops listed →
      (∀ j oj, ops[j]? = some oj → j ≠ i → listed.getD j true = false → (∀ e ∈ oj.after, Region.binds md e = true → e.on ≠ i) → oi.apart ops oj = true) →
      (∀ j oj, ops[j]? = some oj → j ≠ i → listed.getD j true = false → reach md ops 16 j i = false → lou.contains j = false) →
      i ∈ Region.ready md ops listed →
      mixOp P ops C lou fin i (wpAnyM P md ops C lou fin Q fuel (listed.setIfInBounds i true)) a w → wpAnyM P md ops C lou fin Q (fuel + 1) listed a w := by
  intro fuel
  induction fuel with
  | zero =>
    intro listed a w _ _ _ _ hr H
    refine ⟨fun h => (by rw [h] at hr; cases hr), fun j hj => ?_⟩
    by_cases hji : j = i
    · subst hji; exact H
    · have := ready_mono hj hji
      obtain ⟨_, _, _, hk⟩ := mixOp_some hi H
      rw [hk.1] at this
      cases this
  | succ fuel ih =>
    intro listed a w hC hdown hfree hquiet hr H
    refine ⟨fun h => (by rw [h] at hr; cases hr), fun j hj => ?_⟩
    by_cases hji : j = i
    · subst hji; exact H
    · obtain ⟨hjun, oj, hoj, hall⟩ := mem_ready.1 hj
      have hap := hfree j oj hoj hji hjun (not_waits hr hall)
      have hlj : lou.contains j = false := hquiet j oj hoj hji hjun (by
        cases hre : reach md ops 16 j i with
        | false => rfl
        | true => have h1 := reach_listed hdown 16 j oj hoj hall hre; rw [not_listed hr] at h1; cases h1)
      obtain ⟨h1, h2, h3⟩ := Oper.apart_spec hap
      have hsi := fun cs b => hsel i oi cs b hi
      have hsj := fun cs b => hsel j oj cs b hoj
      have back : ∀ {u : Value} {ds : List Deferred} {x : Value}, Settles P ops C oj x ({ a with defers := ds }.put oi.dst u) → Settles P ops C oj x a := fun hs =>
        Settles.of_same (Settles.of_same hs (execOp_put oj hsj _ oi.dst _ h1).symm (wanted_put oj _ oi.dst _ h1).symm) rfl rfl
      have open_ : ∀ {a' : Act} {w' : World}, wpAnyM P md ops C lou fin Q (fuel + 1) (listed.setIfInBounds i true) a' w' → ∃ x, Settles P ops C oj x a' ∧ wpAnyM P md ops C lou fin Q fuel ((listed.setIfInBounds i true).setIfInBounds j true) (a'.put oj.dst x) w' := fun hk => by
        have := hk.2 j (ready_mono hj hji)
        unfold mixOp at this
        simp only [hoj, hlj, Bool.false_eq_true, if_false] at this
        exact this
      obtain ⟨u0, ds0, w0, hk0⟩ := mixOp_some hi H
      obtain ⟨x, hx, _⟩ := open_ hk0
      have hx0 := back hx
      have goal2 : wpAnyM P md ops C lou fin Q (fuel + 1) (listed.setIfInBounds j true) (a.put oj.dst x) w := by
        refine ih (listed.setIfInBounds j true) (a.put oj.dst x) w hC (hdown.set hj) (fun k ok hk hki hun hno => ?_) (fun k ok hk hki hun hno => ?_) (ready_mono hr (Ne.symm hji)) ?_
        · refine hfree k ok hk hki ?_ hno
          by_cases hjk : j = k
          · subst hjk; exact hjun
          · rw [getD_set_ne true hjk] at hun; exact hun
        · refine hquiet k ok hk hki ?_ hno
          by_cases hjk : j = k
          · subst hjk; exact hjun
          · rw [getD_set_ne true hjk] at hun; exact hun
        · have H2 : mixOp P ops C lou fin i (fun a' w' => wpAnyM P md ops C lou fin Q fuel ((listed.setIfInBounds j true).setIfInBounds i true) (a'.put oj.dst x) w') a w := by
            refine mixOp_up (fun o ho u ds w' hk => ?_) (fun hn => by rw [hi] at hn; cases hn) H
            rw [hi] at ho
            cases ho
            obtain ⟨y, hy, hk2⟩ := open_ hk
            have e := Settles.one hC (back hy) hx0
            subst e
            rw [Array.setIfInBounds_comm _ _ hji]
            exact hk2
          have h2' : ∀ t, oj.dst = some t → oi.dst ≠ some t := fun t ht hd => h2 t hd ht
          unfold mixOp at H2 ⊢
          simp only [hi, hli, if_true] at H2 ⊢
          rw [wanted_put oi a oj.dst x h3]
          split
          · rename_i hw
            simp only [hw, if_true] at H2
            exact (wp_put (ops := ops) hsi h3 h2').2 H2
          · rename_i hw
            simp only [hw] at H2
            show wpAnyM _ _ _ _ _ _ _ _ _ _ _
            rw [Act.put_comm a x undef h2']
            exact H2
      unfold mixOp
      simp only [hoj, hlj, Bool.false_eq_true, if_false]
      exact ⟨x, hx0, goal2⟩

/-- What is loud waits for all that is loud ahead of it. -/
def loudOk (md : Region.Mode) (ops : Array Oper) (lou : List Nat) : Nat → Nat → Array Bool → Bool
  | 0, _, _ => true
  | fuel + 1, k, listed => (!lou.contains k || (List.range ops.size).all fun j => j == k || listed.getD j true || reach md ops 16 j k || !lou.contains j) && loudOk md ops lou fuel (k + 1) (listed.setIfInBounds k true)

theorem loud_spec {i : Nat} {listed : Array Bool} (h : ((List.range ops.size).all fun j => j == i || listed.getD j true || reach md ops 16 j i || !lou.contains j) = true)
    (j : Nat) (oj : Oper) (hj : ops[j]? = some oj) (hne : j ≠ i) (hun : listed.getD j true = false) (hno : reach md ops 16 j i = false) : lou.contains j = false := by
  simp only [List.all_eq_true, List.mem_range] at h
  have h1 := h j (Array.getElem?_eq_some_iff.1 hj).1
  simpa [hne, hun, hno] using h1

/-- The walk in the order of the text. -/
def wpMix (P : Program) (ops : Array Oper) (C : World → Prop) (lou : List Nat) (fin : Nat → Bool) (Q : Act → World → Prop) : Nat → List Oper → Act → World → Prop
  | _, [], a, w => Q a w
  | k, o :: rest, a, w =>
    if lou.contains k then
      if Region.wanted o (yielded ops a.tmps) then o.wp P a w (fun a' w' => (fin k = false → C w') ∧ wpMix P ops C lou fin Q (k + 1) rest a' w') none3 else wpMix P ops C lou fin Q (k + 1) rest (a.put o.dst undef) w
    else if Region.wanted o (yielded ops a.tmps) then ∃ v, Still1 P C o v a ∧ wpMix P ops C lou fin Q (k + 1) rest (a.put o.dst v) w else wpMix P ops C lou fin Q (k + 1) rest (a.put o.dst undef) w

theorem wpAnyM_lex {Q : Act → World → Prop} (hs : Region.noSelect ops = true) (hfl : ∀ k, fin k = true → k + 1 = ops.size) : ∀ (l : List Oper) (k : Nat) (listed : Array Bool) (a : Act) (w : World), (l ≠ [] → C w) → Down md ops listed → (∀ j, l[j]? = ops[k + j]?) →
    Region.lexFrom md ops l.length k listed = true → loudOk md ops lou l.length k listed = true → wpMix P ops C lou fin Q k l a w → wpAnyM P md ops C lou fin Q l.length listed a w
  | [], _, _, _, _, _, _, _, hB, _, h => ⟨by simpa [Region.lexFrom] using hB, h⟩
  | o :: l, k, listed, a, w, hC0, hdown, hl, hB, hL, h => by
    have hC := hC0 (by simp)
    have h0 : ops[k]? = some o := by simpa using (hl 0).symm
    simp only [List.length_cons, Region.lexFrom, Bool.and_eq_true] at hB
    obtain ⟨⟨hr, hf⟩, hB'⟩ := hB
    simp only [List.length_cons, loudOk, Bool.and_eq_true, Bool.or_eq_true, Bool.not_eq_true'] at hL
    obtain ⟨hl1, hL'⟩ := hL
    have last : fin k = true → l = [] := fun hk => by
      have h1 := hl 1
      rw [Array.getElem?_eq_none (by have := hfl k hk; omega)] at h1
      cases l with
      | nil => rfl
      | cons x y => simp at h1
    have next := fun (a' : Act) (w' : World) (hc : fin k = false → C w') (hk : wpMix P ops C lou fin Q (k + 1) l a' w') =>
      wpAnyM_lex (Q := Q) hs hfl l (k + 1) (listed.setIfInBounds k true) a' w' (fun hne => hc (by
        cases hf' : fin k with
        | false => rfl
        | true => exact absurd (last hf') hne)) (hdown.set (by simpa using hr)) (fun j => by have := hl (j + 1); simpa [Nat.add_assoc, Nat.add_comm 1 j] using this) hB' hL' hk
    unfold wpMix at h
    by_cases hlk : lou.contains k = true
    · simp only [hlk, if_true] at h
      have hl2 := hl1.resolve_left (by rw [hlk]; simp)
      refine wpAnyM_loud h0 hlk (Region.noSelect_spec hs) l.length listed a w hC hdown (Region.free_spec h0 hf) (loud_spec hl2) (by simpa using hr) ?_
      unfold mixOp
      simp only [h0, hlk, if_true]
      split
      · rename_i hw
        simp only [hw, if_true] at h
        exact wp_up (fun u ds w' ⟨hc, hk⟩ => ⟨hc, next _ _ hc hk⟩) h
      · rename_i hw
        simp only [hw] at h
        exact next _ _ (fun _ => hC) h
    · have hlk' : lou.contains k = false := by simpa using hlk
      simp only [hlk', Bool.false_eq_true, if_false] at h
      by_cases hw : Region.wanted o (yielded ops a.tmps) = true
      · simp only [hw, if_true] at h
        obtain ⟨v, hv, hk⟩ := h
        exact wpAnyM_first h0 hlk' (Region.noSelect_spec hs) l.length listed a w (Region.free_spec h0 hf) (by simpa using hr) (.inl ⟨hw, hv⟩) (next _ _ (fun _ => hC) hk)
      · simp only [hw, if_false] at h
        exact wpAnyM_first h0 hlk' (Region.noSelect_spec hs) l.length listed a w (Region.free_spec h0 hf) (by simpa using hr) (.inr ⟨by simpa using hw, rfl⟩) (next _ _ (fun _ => hC) h)

theorem wp_mix {id : Nat} {Q : Exit → Act → World → Prop} {a : Act} {w : World} {l : List Oper} (C : World → Prop) (lou : List Nat) (hm : P.follows .mixedOrders = true) (hB : Region.lexB .any l.toArray = true)
    (hL : loudOk .any l.toArray lou l.length 0 (Array.replicate l.length false) = true) (hC : C w.drew)
    (h : wpMix P l.toArray C lou (fun _ => false) (fun a' w' => Q .normal a' w') 0 l a w.drew) : (Code.region id l.toArray true).wp P Q a w := by
  simp only [Region.lexB, Bool.and_eq_true] at hB
  refine wp_region_any hm (wpAny_of_mix (C := C) (lou := lou) (fin := fun _ => false) (fun _ _ _ h => by cases h) (Q := fun a' w' => Q .normal a' w') (fun _ _ h => h) _ _ _ _ (down_start _) (fun _ => hC) ?_)
  have := wpAnyM_lex (C := C) (md := .any) (fin := fun _ => false) hB.1 (fun _ h => by cases h) l 0 (Array.replicate l.toArray.size false) a w.drew (fun _ => hC) (down_start _) (by simp) (by simpa using hB.2) (by simpa using hL) h
  simpa using this

/-- The last operation waits for each other one: Bool. -/
def lastOk (ops : Array Oper) : Bool := match ops[ops.size - 1]? with
  | some o => (List.range (ops.size - 1)).all fun j => (o.after.any fun e => Region.binds .any e && e.on == j) || (o.after.any fun e => Region.binds .any e && (match ops[e.on]? with | some o' => o'.after.any fun e' => Region.binds .any e' && e'.on == j | none => false))
  | none => false

theorem fin_of_lastOk (h : lastOk ops = true) : Fin .any ops (fun k => k + 1 == ops.size) := by
  intro i listed hdown hi hr
  have hi : i + 1 = ops.size := by simpa using hi
  unfold lastOk at h
  have e : ops.size - 1 = i := by omega
  rw [e] at h
  obtain ⟨h0, o, ho, hall⟩ := mem_ready.1 hr
  simp only [ho, List.all_eq_true, List.mem_range] at h
  cases hr2 : Region.ready .any ops (listed.setIfInBounds i true) with
  | nil => rfl
  | cons j rest =>
    exfalso
    have hj : j ∈ Region.ready .any ops (listed.setIfInBounds i true) := by rw [hr2]; exact List.mem_cons_self
    obtain ⟨j0, oj, hoj, _⟩ := mem_ready.1 hj
    have hjlt : j < ops.size := (Array.getElem?_eq_some_iff.1 hoj).1
    by_cases hji : i = j
    · subst hji
      have hsz : i < listed.size := by
        rcases Nat.lt_or_ge i listed.size with h' | h'
        · exact h'
        · simp [Array.getElem?_eq_none h'] at h0
      simp [hsz] at j0
    · rw [getD_set_ne true hji] at j0
      have h1 : listed.getD j false = true := by
        have hj2 := h j (by omega)
        rw [Bool.or_eq_true] at hj2
        rcases hj2 with hj2 | hj2
        · obtain ⟨x, hx, hb⟩ := Array.any_eq_true'.1 hj2
          simp only [Bool.and_eq_true, beq_iff_eq] at hb
          have h1 := hall x hx hb.1
          rw [hb.2] at h1
          exact h1
        · obtain ⟨x, hx, hb⟩ := Array.any_eq_true'.1 hj2
          rw [Bool.and_eq_true] at hb
          obtain ⟨hb1, hb2⟩ := hb
          have h1 := hall x hx hb1
          cases hm : ops[x.on]? with
          | none => rw [hm] at hb2; cases hb2
          | some o' =>
            rw [hm] at hb2
            obtain ⟨y, hy, hby⟩ := Array.any_eq_true'.1 hb2
            simp only [Bool.and_eq_true, beq_iff_eq] at hby
            have h2 := hdown x.on o' hm h1 y hy hby.1
            rw [hby.2] at h2
            exact h2
      rcases Nat.lt_or_ge j listed.size with h' | h'
      · simp [h'] at h1 j0; rw [j0] at h1; cases h1
      · simp [Array.getElem?_eq_none h'] at h1

/-- .. where the last operation waits for all others: what it leaves need not be of the class. -/
theorem wp_mix_tail {id : Nat} {Q : Exit → Act → World → Prop} {a : Act} {w : World} {l : List Oper} (C : World → Prop) (lou : List Nat) (hm : P.follows .mixedOrders = true) (hB : Region.lexB .any l.toArray = true)
    (hL : loudOk .any l.toArray lou l.length 0 (Array.replicate l.length false) = true) (hT : lastOk l.toArray = true) (hC : C w.drew)
    (h : wpMix P l.toArray C lou (fun k => k + 1 == l.toArray.size) (fun a' w' => Q .normal a' w') 0 l a w.drew) : (Code.region id l.toArray true).wp P Q a w := by
  simp only [Region.lexB, Bool.and_eq_true] at hB
  refine wp_region_any hm (wpAny_of_mix (C := C) (lou := lou) (fin_of_lastOk hT) (Q := fun a' w' => Q .normal a' w') (fun _ _ h => h) _ _ _ _ (down_start _) (fun _ => hC) ?_)
  have := wpAnyM_lex (C := C) (md := .any) (fin := fun k => k + 1 == l.toArray.size) hB.1 (fun k hk => by simpa using hk) l 0 (Array.replicate l.toArray.size false) a w.drew (fun _ => hC) (down_start _) (by simp) (by simpa using hB.2) (by simpa using hL) h
  simpa using this

/-- The steps. -/
theorem mix_nil {Q : Act → World → Prop} {k : Nat} {a : Act} {w : World} (h : Q a w) : wpMix P ops C lou fin Q k [] a w := h
theorem mix_quiet {Q : Act → World → Prop} {k : Nat} {o : Oper} {rest : List Oper} {a : Act} {w : World} (hl : lou.contains k = false) (hg : o.guard = none) (v : Value) (hv : Still1 P C o v a)
    (h : wpMix P ops C lou fin Q (k + 1) rest (a.put o.dst v) w) : wpMix P ops C lou fin Q k (o :: rest) a w := by
  unfold wpMix
  rw [if_neg (by simp only [hl, Bool.false_eq_true, not_false_iff]), if_pos (by simp [Region.wanted, hg])]
  exact ⟨v, hv, h⟩
/-- The same, the frame behind a variable: go_simp writes it out. -/
theorem mixq {Q : Act → World → Prop} {k : Nat} {o : Oper} {rest : List Oper} {a : Act} {w : World} (hl : lou.contains k = false) (hg : o.guard = none) (v : Value) (hv : Still1 P C o v a)
    (h : ∀ K : Act → Prop, (∀ a, wpMix P ops C lou fin Q (k + 1) rest a w → K a) → K (a.put o.dst v)) : wpMix P ops C lou fin Q k (o :: rest) a w :=
  mix_quiet hl hg v hv (h _ fun _ h => h)
theorem mixq_yes {Q : Act → World → Prop} {k : Nat} {o : Oper} {rest : List Oper} {a : Act} {w : World} (hl : lou.contains k = false) (hg : Region.wanted o (yielded ops a.tmps) = true) (v : Value) (hv : Still1 P C o v a)
    (h : ∀ K : Act → Prop, (∀ a, wpMix P ops C lou fin Q (k + 1) rest a w → K a) → K (a.put o.dst v)) : wpMix P ops C lou fin Q k (o :: rest) a w := by
  unfold wpMix
  rw [if_neg (by simp only [hl, Bool.false_eq_true, not_false_iff]), if_pos hg]
  exact ⟨v, hv, h _ fun _ h => h⟩
theorem mixq_no {Q : Act → World → Prop} {k : Nat} {o : Oper} {rest : List Oper} {a : Act} {w : World} (hg : Region.wanted o (yielded ops a.tmps) = false)
    (h : ∀ K : Act → Prop, (∀ a, wpMix P ops C lou fin Q (k + 1) rest a w → K a) → K (a.put o.dst undef)) : wpMix P ops C lou fin Q k (o :: rest) a w := by
  unfold wpMix
  rw [hg]
  simp only [Bool.false_eq_true, if_false]
  split <;> exact h _ fun _ h => h
theorem mixl {Q : Act → World → Prop} {k : Nat} {o : Oper} {rest : List Oper} {a : Act} {w : World} (hl : lou.contains k = true) (hg : o.guard = none)
    (h : ∀ K : Act → World → Prop, (∀ a w, (fin k = false → C w) → wpMix P ops C lou fin Q (k + 1) rest a w → K a w) → o.wp P a w K none3) : wpMix P ops C lou fin Q k (o :: rest) a w := by
  unfold wpMix
  rw [if_pos hl, if_pos (by simp [Region.wanted, hg])]
  exact h _ fun _ _ h1 h2 => ⟨h1, h2⟩
theorem mixl_yes {Q : Act → World → Prop} {k : Nat} {o : Oper} {rest : List Oper} {a : Act} {w : World} (hl : lou.contains k = true) (hg : Region.wanted o (yielded ops a.tmps) = true)
    (h : ∀ K : Act → World → Prop, (∀ a w, (fin k = false → C w) → wpMix P ops C lou fin Q (k + 1) rest a w → K a w) → o.wp P a w K none3) : wpMix P ops C lou fin Q k (o :: rest) a w := by
  unfold wpMix
  rw [if_pos hl, if_pos hg]
  exact h _ fun _ _ h1 h2 => ⟨h1, h2⟩
theorem mix_loud {Q : Act → World → Prop} {k : Nat} {o : Oper} {rest : List Oper} {a : Act} {w : World} (hl : lou.contains k = true) (hg : o.guard = none)
    (h : o.wp P a w (fun a' w' => (fin k = false → C w') ∧ wpMix P ops C lou fin Q (k + 1) rest a' w') none3) : wpMix P ops C lou fin Q k (o :: rest) a w := by
  unfold wpMix
  rw [if_pos hl, if_pos (by simp [Region.wanted, hg])]
  exact h
/-- A guarded operation: its guard's outcome. -/
theorem mix_quiet_yes {Q : Act → World → Prop} {k : Nat} {o : Oper} {rest : List Oper} {a : Act} {w : World} (hl : lou.contains k = false) (hg : Region.wanted o (yielded ops a.tmps) = true) (v : Value) (hv : Still1 P C o v a)
    (h : wpMix P ops C lou fin Q (k + 1) rest (a.put o.dst v) w) : wpMix P ops C lou fin Q k (o :: rest) a w := by
  unfold wpMix
  rw [if_neg (by simp only [hl, Bool.false_eq_true, not_false_iff]), if_pos hg]
  exact ⟨v, hv, h⟩
theorem mix_loud_yes {Q : Act → World → Prop} {k : Nat} {o : Oper} {rest : List Oper} {a : Act} {w : World} (hl : lou.contains k = true) (hg : Region.wanted o (yielded ops a.tmps) = true)
    (h : o.wp P a w (fun a' w' => (fin k = false → C w') ∧ wpMix P ops C lou fin Q (k + 1) rest a' w') none3) : wpMix P ops C lou fin Q k (o :: rest) a w := by
  unfold wpMix
  rw [if_pos hl, if_pos hg]
  exact h
theorem mix_no {Q : Act → World → Prop} {k : Nat} {o : Oper} {rest : List Oper} {a : Act} {w : World} (hg : Region.wanted o (yielded ops a.tmps) = false)
    (h : wpMix P ops C lou fin Q (k + 1) rest (a.put o.dst undef) w) : wpMix P ops C lou fin Q k (o :: rest) a w := by
  unfold wpMix
  rw [hg]
  simp only [Bool.false_eq_true, if_false]
  split <;> exact h
end
end Go.Proofs.Ytefbmbfhhhjgkaa
