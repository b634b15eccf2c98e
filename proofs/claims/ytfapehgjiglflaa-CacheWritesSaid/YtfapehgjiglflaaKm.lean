/- The cache in memory: blocks that are held, in a ring and in a map. -/
import Derived.Test.YtfapehgjiglflaaBh
namespace Go.Proofs.Ytfapehgjiglflaa
open Go.RowKit
theorem cso {w : World} {a b : Addr} {v : Value} (h : a ≠ b) : (w.setCell a v).cell? b = w.cell? b := World.cell?_setCell_other (h := h) ..
theorem css {w : World} {a : Addr} {u v : Value} (h : w.cell? a = some u) : (w.setCell a v).cell? a = some v := World.cell?_setCell_same (h := h) ..
structure Hd where
  n : Nat
  b : List UInt8
  dirty : Bool
  pins : Int
structure Ck where
  size : Int
  l : List Hd
  hits : Int
  misses : Int
  evs : Int
/- Addresses in the ring: the cache's own ends (gc), or a block that is held. -/
def ofs (gc b : Nat) : Nat := if b = gc then 3 else 0
def ad (gc b : Nat) : Addr := ⟨b, ofs gc b, none⟩
def nx (gc b : Nat) : Addr := ⟨b, ofs gc b + 5, none⟩
def pv (gc b : Nat) : Addr := ⟨b, ofs gc b + 4, none⟩
theorem nx_ne {gc a b : Nat} (h : a ≠ b) : nx gc a ≠ nx gc b := fun e => h (by injection e)
theorem pv_ne {gc a b : Nat} (h : a ≠ b) : pv gc a ≠ pv gc b := fun e => h (by injection e)
theorem nx_pv (gc a b : Nat) : nx gc a ≠ pv gc b := fun e => by
  injection e with e1 e2
  subst e1
  omega
def Lnk (w : World) (gc : Nat) : List Nat → Prop
  | [] => True
  | [_] => True
  | x :: y :: r => w.cell? (nx gc x) = some (.pointer (some (ad gc y))) ∧ w.cell? (pv gc y) = some (.pointer (some (ad gc x))) ∧ Lnk w gc (y :: r)
theorem Lnk.app {w : World} {gc : Nat} : ∀ {A : List Nat} {x : Nat} {B : List Nat}, Lnk w gc (A ++ x :: B) ↔ Lnk w gc (A ++ [x]) ∧ Lnk w gc (x :: B)
  | [], x, B => by simp [Lnk]
  | [a], x, B => by simp [Lnk, and_assoc]
  | a :: b :: A, x, B => by
    have ih := Lnk.app (w := w) (gc := gc) (A := b :: A) (x := x) (B := B)
    simp only [List.cons_append] at ih ⊢
    show (_ ∧ _ ∧ Lnk w gc (b :: (A ++ x :: B))) ↔ (_ ∧ _ ∧ Lnk w gc (b :: (A ++ [x]))) ∧ _
    rw [ih]
    simp only [and_assoc]
theorem Lnk.keep {w w' : World} {gc : Nat} : ∀ {l : List Nat}, Lnk w gc l → (∀ a ∈ l.dropLast, w'.cell? (nx gc a) = w.cell? (nx gc a)) → (∀ a ∈ l.tail, w'.cell? (pv gc a) = w.cell? (pv gc a)) → Lnk w' gc l
  | [], _, _, _ => trivial
  | [_], _, _, _ => trivial
  | x :: y :: r, h, h1, h2 => by
    obtain ⟨q1, q2, q3⟩ := h
    refine ⟨(h1 x (by simp [List.dropLast])).trans q1, (h2 y (by simp)).trans q2, Lnk.keep q3 (fun a ha => h1 a ?_) (fun a ha => h2 a ?_)⟩
    · rw [List.dropLast_cons_of_ne_nil (by simp)]
      exact List.mem_cons_of_mem _ ha
    · simp only [List.tail_cons] at ha ⊢
      exact List.mem_cons_of_mem _ ha
/-- What stands between p and y goes. -/
theorem Lnk.splice {w : World} {gc p x y : Nat} {A B : List Nat} (h : Lnk w gc (A ++ p :: x :: y :: B)) (h1 : p ∉ A) (h2 : p ∉ (y :: B).dropLast) (h3 : y ∉ (A ++ [p]).tail) (h4 : y ∉ B) :
    Lnk ((w.setCell (nx gc p) (.pointer (some (ad gc y)))).setCell (pv gc y) (.pointer (some (ad gc p)))) gc (A ++ p :: y :: B) := by
  obtain ⟨q1, q2⟩ := Lnk.app.1 h
  obtain ⟨c1, c2, c3, c4, q3⟩ := q2
  refine Lnk.app.2 ⟨q1.keep (fun a ha => ?_) (fun a ha => ?_), ?_, ?_, q3.keep (fun a ha => ?_) (fun a ha => ?_)⟩
  · rw [List.dropLast_concat] at ha
    have hne : a ≠ p := fun e => h1 (e ▸ ha)
    rw [cso (fun e => nx_pv gc a y e.symm), cso (nx_ne (fun e => hne e.symm))]
  · have hne : a ≠ y := fun e => h3 (e ▸ ha)
    rw [cso (pv_ne (fun e => hne e.symm)), cso (nx_pv gc p a)]
  · rw [cso (fun e => nx_pv gc p y e.symm)]
    exact css c1
  · refine css (u := .pointer (some (ad gc x))) ?_
    rw [cso (nx_pv gc p y)]
    exact c4
  · have hne : a ≠ p := fun e => h2 (e ▸ ha)
    rw [cso (fun e => nx_pv gc a y e.symm), cso (nx_ne (fun e => hne e.symm))]
  · have hne : a ≠ y := fun e => h4 (e ▸ ha)
    rw [cso (pv_ne (fun e => hne e.symm)), cso (nx_pv gc p a)]
theorem Lnk.three {w : World} {gc p x y : Nat} {A B : List Nat} (h : Lnk w gc (A ++ p :: x :: y :: B)) :
    w.cell? (nx gc p) = some (.pointer (some (ad gc x))) ∧ w.cell? (pv gc x) = some (.pointer (some (ad gc p))) ∧ w.cell? (nx gc x) = some (.pointer (some (ad gc y))) ∧ w.cell? (pv gc y) = some (.pointer (some (ad gc x))) := by
  obtain ⟨_, c1, c2, c3, c4, _⟩ := Lnk.app.1 h
  exact ⟨c1, c2, c3, c4⟩
/-- A block that is held. -/
def Nod (w : World) (k : Nat) (h : Hd) : Prop := ∃ (vb : Value) (p q : Option Addr), Blk w k 78 #[.int .i64 (h.n : Int), vb, .bool h.dirty, .int .i64 h.pins, .pointer p, .pointer q] ∧ RdT (fun _ => True) 5 w vb (bvs h.b)
def CBlk (w : World) (gc g mb : Nat) (c : Ck) : Prop := ∃ (p q : Option Addr), Blk w gc 80 #[.pointer (some ⟨g, 0, none⟩), .int .i64 c.size, .map (some mb), .int .i64 0, .slice none 0 0, .bool false, .int .i64 0, .pointer p, .pointer q, .int .i64 c.hits, .int .i64 c.misses, .int .i64 c.evs]
def kindK (t : Nat) : Prop := t = 78 ∨ t = 80
theorem kindK_ne {t : Nat} (h : kindK t) : t ≠ 74 ∧ t ≠ 31 ∧ t ≠ 5 ∧ t ≠ 3 ∧ t ≠ 9 ∧ t ≠ 4 := by rcases h with rfl | rfl <;> decide
theorem Nod.lt {w : World} {k : Nat} {h : Hd} (hn : Nod w k h) : k < w.heap.size := by
  obtain ⟨vb, p, q, hb, _⟩ := hn
  exact hb.lt
theorem Nod.blk {w : World} {k : Nat} {h : Hd} (hn : Nod w k h) : ∃ cs, Blk w k 78 cs := by
  obtain ⟨vb, p, q, hb, _⟩ := hn
  exact ⟨_, hb⟩
theorem Nod.chg {S : Nat → Prop} {w w' : World} {k : Nat} {h : Hd} (hn : Nod w k h) (hb : Chg S w w') (hk : ¬ S k) (h8 : ∀ k cs, Blk w k 5 cs → ¬ S k) : Nod w' k h := by
  obtain ⟨vb, p, q, hB, hr⟩ := hn
  exact ⟨vb, p, q, hB.chg hb hk, hr.chg hb h8⟩
theorem CBlk.lt {w : World} {gc g mb : Nat} {c : Ck} (h : CBlk w gc g mb c) : gc < w.heap.size := by
  obtain ⟨p, q, hb⟩ := h
  exact hb.lt
theorem CBlk.chg {S : Nat → Prop} {w w' : World} {gc g mb : Nat} {c : Ck} (h : CBlk w gc g mb c) (hb : Chg S w w') (hk : ¬ S gc) : CBlk w' gc g mb c := by
  obtain ⟨p, q, hB⟩ := h
  exact ⟨p, q, hB.chg hb hk⟩
theorem Nod.ne {w : World} {k gc g mb : Nat} {h : Hd} {c : Ck} (hn : Nod w k h) (hc : CBlk w gc g mb c) : k ≠ gc := by
  obtain ⟨vb, p, q, hB, _⟩ := hn
  obtain ⟨_, _, hC⟩ := hc
  exact hB.ne_ hC (by decide)
/-- A link is set. -/
theorem Nod.link {w : World} {k : Nat} {h : Hd} (hn : Nod w k h) {b i : Nat} (u : Option Addr) (hi : b = k → i = 4 ∨ i = 5) {t : Nat} {cs : Array Value} (hb : Blk w b t cs) (ht : t ≠ 5) : Nod (w.setCell ⟨b, i, none⟩ (.pointer u)) k h := by
  obtain ⟨vb, p, q, hB, hr⟩ := hn
  have hr' : RdT (fun _ => True) 5 (w.setCell ⟨b, i, none⟩ (.pointer u)) vb (bvs h.b) := hr.far (p := ⟨b, i, none⟩) (fun cs' hk => absurd rfl (hk.ne_ hb (Ne.symm ht))) (.pointer u)
  by_cases e : b = k
  · subst e
    rcases hi rfl with rfl | rfl
    · exact ⟨vb, u, q, hB.set_ 4 _, hr'⟩
    · exact ⟨vb, p, u, hB.set_ 5 _, hr'⟩
  · exact ⟨vb, p, q, hB.far (fun e' => e e'.symm) _, hr'⟩
theorem CBlk.link {w : World} {gc g mb : Nat} {c : Ck} (h : CBlk w gc g mb c) {b i : Nat} (u : Option Addr) (hi : b = gc → i = 7 ∨ i = 8) : CBlk (w.setCell ⟨b, i, none⟩ (.pointer u)) gc g mb c := by
  obtain ⟨p, q, hB⟩ := h
  by_cases e : b = gc
  · subst e
    rcases hi rfl with rfl | rfl
    · exact ⟨u, q, hB.set_ 7 _⟩
    · exact ⟨p, u, hB.set_ 8 _⟩
  · exact ⟨p, q, hB.far (fun e' => e e'.symm) _⟩
structure KM (w : World) (gc g mb : Nat) (c : Ck) (ns : List (Nat × Hd)) : Prop where
  cb : CBlk w gc g mb c
  nod : ∀ x ∈ ns, Nod w x.1 x.2
  lnk : Lnk w gc (gc :: (ns.map (·.1) ++ [gc]))
  dup : (ns.map (·.1)).Nodup
namespace KM
variable {w w' : World} {gc g mb : Nat} {c : Ck} {ns : List (Nat × Hd)}
theorem gcn (h : KM w gc g mb c ns) : gc ∉ ns.map (·.1) := fun hm => by
  obtain ⟨x, hx, e⟩ := List.mem_map.1 hm
  exact (h.nod x hx).ne h.cb e
/-- The block in which a link lies. -/
theorem kind (h : KM w gc g mb c ns) {b : Nat} (hb : b = gc ∨ b ∈ ns.map (·.1)) : ∃ t cs, Blk w b t cs ∧ kindK t := by
  rcases hb with rfl | hb
  · obtain ⟨p, q, hB⟩ := h.cb
    exact ⟨_, _, hB, .inr rfl⟩
  · obtain ⟨x, hx, rfl⟩ := List.mem_map.1 hb
    obtain ⟨cs, hB⟩ := (h.nod x hx).blk
    exact ⟨_, cs, hB, .inl rfl⟩
theorem chg {S : Nat → Prop} (h : KM w gc g mb c ns) (hb : Chg S w w') (h1 : ¬ S gc) (h2 : ∀ x ∈ ns, ¬ S x.1) (h8 : ∀ k cs, Blk w k 5 cs → ¬ S k) : KM w' gc g mb c ns where
  cb := h.cb.chg hb h1
  nod := fun x hx => (h.nod x hx).chg hb (h2 x hx) h8
  lnk := by
    have hm : ∀ a ∈ gc :: (ns.map (·.1) ++ [gc]), ∀ i, w'.cell? ⟨a, i, none⟩ = w.cell? ⟨a, i, none⟩ := fun a ha i => by
      have hS : ¬ S a ∧ a < w.heap.size := by
        simp only [List.mem_cons, List.mem_append, List.mem_singleton, List.not_mem_nil, or_false] at ha
        rcases ha with rfl | ha | rfl
        · exact ⟨h1, h.cb.lt⟩
        · obtain ⟨x, hx, rfl⟩ := List.mem_map.1 ha
          exact ⟨h2 x hx, (h.nod x hx).lt⟩
        · exact ⟨h1, h.cb.lt⟩
      exact World.cell?_of_block (hb.block a hS.2 hS.1)
    exact h.lnk.keep (fun a ha => hm a (List.dropLast_subset _ ha) _) (fun a ha => hm a (List.mem_of_mem_tail ha) _)
  dup := h.dup
theorem below (h : KM w gc g mb c ns) (hb : Below w.heap.size w w') : KM w' gc g mb c ns :=
  h.chg (S := fun k => w.heap.size ≤ k) ((Chg.of_below hb).mono (fun _ _ h => h)) (Nat.not_le.2 h.cb.lt) (fun x hx => Nat.not_le.2 (h.nod x hx).lt) (fun k cs hk => Nat.not_le.2 hk.lt)
end KM
theorem ofs_link {gc b : Nat} : (b = gc → ofs gc b + 4 = 7 ∧ ofs gc b + 5 = 8) ∧ (b ≠ gc → ofs gc b + 4 = 4 ∧ ofs gc b + 5 = 5) := by
  unfold ofs
  constructor
  · intro h; rw [if_pos h]; exact ⟨rfl, rfl⟩
  · intro h; rw [if_neg h]; exact ⟨rfl, rfl⟩
/-- A link of the ring is set: what the blocks bear stays. -/
theorem Nod.nxs {w : World} {gc g mb k b : Nat} {h : Hd} {c : Ck} {ns : List (Nat × Hd)} (hk : KM w gc g mb c ns) (hn : Nod w k h) (hb : b = gc ∨ b ∈ ns.map (·.1)) (u : Option Addr) : Nod (w.setCell (nx gc b) (.pointer u)) k h ∧ Nod (w.setCell (pv gc b) (.pointer u)) k h := by
  obtain ⟨t, cs, hB, ht⟩ := hk.kind hb
  have hne := hn.ne hk.cb
  exact ⟨hn.link u (fun e => .inr (ofs_link.2 (e ▸ hne)).2) hB (kindK_ne ht).2.2.1, hn.link u (fun e => .inl (ofs_link.2 (e ▸ hne)).1) hB (kindK_ne ht).2.2.1⟩
theorem CBlk.nxs {w : World} {gc g mb : Nat} {c : Ck} (h : CBlk w gc g mb c) (b : Nat) (u : Option Addr) : CBlk (w.setCell (nx gc b) (.pointer u)) gc g mb c ∧ CBlk (w.setCell (pv gc b) (.pointer u)) gc g mb c :=
  ⟨h.link u (fun e => .inr (ofs_link.1 e).2), h.link u (fun e => .inl (ofs_link.1 e).1)⟩
theorem Blk.set_at {w : World} {k t : Nat} {cs : Array Value} (h : Blk w k t cs) (b i : Nat) (u : Value) : ∃ cs', Blk (w.setCell ⟨b, i, none⟩ u) k t cs' := by
  by_cases e : k = b
  · subst e
    exact ⟨_, h.set_ i u⟩
  · exact ⟨cs, h.far e u⟩
theorem Blk.set_nx {w : World} {k t : Nat} {cs : Array Value} (h : Blk w k t cs) (gc b : Nat) (u : Value) : ∃ cs', Blk (w.setCell (nx gc b) u) k t cs' := h.set_at b (ofs gc b + 5) u
theorem Blk.set_pv {w : World} {k t : Nat} {cs : Array Value} (h : Blk w k t cs) (gc b : Nat) (u : Value) : ∃ cs', Blk (w.setCell (pv gc b) u) k t cs' := h.set_at b (ofs gc b + 4) u
theorem mem_all {u v : List (Nat × Hd)} {x : Nat × Hd} {a : Nat} : a ∈ (u ++ x :: v).map (·.1) ↔ a ∈ u.map (·.1) ∨ a = x.1 ∨ a ∈ v.map (·.1) := by
  rw [List.map_append, List.map_cons, List.mem_append, List.mem_cons]
theorem snoc_of {α : Type} (a : α) : ∀ (l : List α), ∃ A p, a :: l = A ++ [p]
  | [] => ⟨[], a, rfl⟩
  | b :: l => by
    obtain ⟨A, p, e⟩ := snoc_of b l
    exact ⟨a :: A, p, by rw [e]; rfl⟩
theorem cons_of {α : Type} (a : α) (l : List α) : ∃ y B, l ++ [a] = y :: B := by
  cases l with
  | nil => exact ⟨a, [], rfl⟩
  | cons b l => exact ⟨b, l ++ [a], rfl⟩
/-- Where a block that is held stands in the ring. -/
structure Ring (gc : Nat) (u v : List (Nat × Hd)) (k : Nat) (p y : Nat) (A B : List Nat) : Prop where
  hu : gc :: u.map (·.1) = A ++ [p]
  hv : v.map (·.1) ++ [gc] = y :: B
theorem ring_of (gc : Nat) (u v : List (Nat × Hd)) (k : Nat) : ∃ p y A B, Ring gc u v k p y A B := by
  obtain ⟨A, p, e⟩ := snoc_of gc (u.map (·.1))
  obtain ⟨y, B, e2⟩ := cons_of gc (v.map (·.1))
  exact ⟨p, y, A, B, e, e2⟩
namespace Ring
variable {gc : Nat} {u v : List (Nat × Hd)} {x : Nat × Hd} {p y : Nat} {A B : List Nat}
theorem all (h : Ring gc u v x.1 p y A B) : gc :: ((u ++ x :: v).map (·.1) ++ [gc]) = A ++ p :: x.1 :: y :: B := by
  have e : gc :: ((u ++ x :: v).map (·.1) ++ [gc]) = (gc :: u.map (·.1)) ++ (x.1 :: (v.map (·.1) ++ [gc])) := by simp
  rw [e, h.hu, h.hv]
  simp
theorem rest (h : Ring gc u v x.1 p y A B) : gc :: ((u ++ v).map (·.1) ++ [gc]) = A ++ p :: y :: B := by
  have e : gc :: ((u ++ v).map (·.1) ++ [gc]) = (gc :: u.map (·.1)) ++ (v.map (·.1) ++ [gc]) := by simp
  rw [e, h.hu, h.hv]
  simp
theorem conds (h : Ring gc u v x.1 p y A B) (hd : ((u ++ x :: v).map (·.1)).Nodup) (hg : gc ∉ (u ++ x :: v).map (·.1)) : p ∉ A ∧ p ∉ (y :: B).dropLast ∧ y ∉ (A ++ [p]).tail ∧ y ∉ B ∧ p ≠ x.1 ∧ y ≠ x.1 := by
  have h1 : (gc :: u.map (·.1)).Nodup := by
    rw [List.nodup_cons]
    exact ⟨fun hm => hg (mem_all.2 (.inl hm)), by rw [List.map_append] at hd; exact (List.nodup_append.1 hd).1⟩
  have h2 : (v.map (·.1) ++ [gc]).Nodup := by
    rw [List.nodup_append]
    refine ⟨?_, by simp, ?_⟩
    · rw [List.map_append, List.map_cons] at hd
      exact (List.nodup_cons.1 (List.nodup_append.1 hd).2.1).2
    · intro a ha b hb e
      simp at hb
      subst hb
      subst e
      exact hg (mem_all.2 (.inr (.inr ha)))
  have hp : p = gc ∨ p ∈ u.map (·.1) := by
    have : p ∈ gc :: u.map (·.1) := by rw [h.hu]; simp
    exact List.mem_cons.1 this
  have hy : y ∈ v.map (·.1) ∨ y = gc := by
    have : y ∈ v.map (·.1) ++ [gc] := by rw [h.hv]; simp
    exact (List.mem_append.1 this).imp id List.mem_singleton.1
  have huv : ∀ a, a ∈ u.map (·.1) → a ∉ v.map (·.1) ∧ a ≠ x.1 := fun a ha => by
    rw [List.map_append, List.map_cons] at hd
    have := (List.nodup_append.1 hd).2.2 a ha
    exact ⟨fun hv => this a (List.mem_cons_of_mem _ hv) rfl, fun e => this x.1 (by simp) e⟩
  have hvx : ∀ a, a ∈ v.map (·.1) → a ≠ x.1 := fun a ha e => by
    rw [List.map_append, List.map_cons] at hd
    exact (List.nodup_cons.1 (List.nodup_append.1 hd).2.1).1 (e ▸ ha)
  have hgx : gc ≠ x.1 := fun e => hg (mem_all.2 (.inr (.inl e)))
  have e1 : (y :: B).dropLast = v.map (·.1) := by rw [← h.hv, List.dropLast_concat]
  have e2 : (A ++ [p]).tail = u.map (·.1) := by rw [← h.hu]; rfl
  refine ⟨?_, ?_, ?_, ?_, ?_, ?_⟩
  · rw [h.hu, List.nodup_append] at h1
    intro hm
    exact h1.2.2 p hm p (by simp) rfl
  · rw [e1]
    rcases hp with rfl | hp
    · exact fun hm => hg (mem_all.2 (.inr (.inr hm)))
    · exact (huv p hp).1
  · rw [e2]
    rcases hy with hy | rfl
    · exact fun hm => (huv y hm).1 hy
    · exact fun hm => hg (mem_all.2 (.inl hm))
  · rw [h.hv, List.nodup_cons] at h2
    exact h2.1
  · rcases hp with rfl | hp
    · exact hgx
    · exact (huv p hp).2
  · rcases hy with hy | rfl
    · exact hvx y hy
    · exact hgx
theorem pm (h : Ring gc u v x.1 p y A B) : p = gc ∨ p ∈ (u ++ x :: v).map (·.1) := by
  have : p ∈ gc :: u.map (·.1) := by rw [h.hu]; simp
  rcases List.mem_cons.1 this with e | e
  · exact .inl e
  · exact .inr (mem_all.2 (.inl e))
theorem ym (h : Ring gc u v x.1 p y A B) : y = gc ∨ y ∈ (u ++ x :: v).map (·.1) := by
  have : y ∈ v.map (·.1) ++ [gc] := by rw [h.hv]; simp
  rcases List.mem_append.1 this with e | e
  · exact .inr (mem_all.2 (.inr (.inr e)))
  · exact .inl (List.mem_singleton.1 e)
end Ring
/-- One goes out of the ring. -/
theorem KM.out {w : World} {gc g mb : Nat} {c : Ck} {u v : List (Nat × Hd)} {x : Nat × Hd} {p y : Nat} {A B : List Nat} (h : KM w gc g mb c (u ++ x :: v)) (hr : Ring gc u v x.1 p y A B) :
    KM ((w.setCell (nx gc p) (.pointer (some (ad gc y)))).setCell (pv gc y) (.pointer (some (ad gc p)))) gc g mb c (u ++ v) ∧ Nod ((w.setCell (nx gc p) (.pointer (some (ad gc y)))).setCell (pv gc y) (.pointer (some (ad gc p)))) x.1 x.2 ∧ x.1 ∉ (u ++ v).map (·.1) := by
  obtain ⟨h1, h2, h3, h4, h5, h6⟩ := hr.conds h.dup h.gcn
  have hl := h.lnk
  rw [hr.all] at hl
  have hl2 := hl.splice h1 h2 h3 h4
  have hN : ∀ z ∈ u ++ x :: v, Nod ((w.setCell (nx gc p) (.pointer (some (ad gc y)))).setCell (pv gc y) (.pointer (some (ad gc p)))) z.1 z.2 := fun z hz => by
    obtain ⟨t, cs, hB, ht⟩ := h.kind hr.ym
    obtain ⟨cs', hB'⟩ := hB.set_nx gc p (.pointer (some (ad gc y)))
    have hz1 := (Nod.nxs h (h.nod z hz) hr.pm (some (ad gc y))).1
    have hc1 := (h.cb.nxs p (some (ad gc y))).1
    exact hz1.link _ (fun e => .inl (ofs_link.2 (e ▸ hz1.ne hc1)).1) hB' (kindK_ne ht).2.2.1
  have hsub : ∀ z, z ∈ u ++ v → z ∈ u ++ x :: v := fun z hz => by
    rcases List.mem_append.1 hz with h | h
    · exact List.mem_append.2 (.inl h)
    · exact List.mem_append.2 (.inr (List.mem_cons_of_mem _ h))
  refine ⟨⟨((h.cb.nxs p _).1.nxs y _).2, fun z hz => hN z (hsub z hz), by rw [hr.rest]; exact hl2, ?_⟩, hN x (by simp), ?_⟩
  · have := h.dup
    rw [List.map_append, List.map_cons] at this
    rw [List.map_append]
    have h7 := List.nodup_append.1 this
    exact List.nodup_append.2 ⟨h7.1, (List.nodup_cons.1 h7.2.1).2, fun a ha b hb => h7.2.2 a ha b (List.mem_cons_of_mem _ hb)⟩
  · have := h.dup
    rw [List.map_append, List.map_cons] at this
    have h7 := List.nodup_append.1 this
    rw [List.map_append, List.mem_append]
    rintro (hm | hm)
    · exact h7.2.2 _ hm _ (by simp) rfl
    · exact (List.nodup_cons.1 h7.2.1).1 hm
/-- One comes to the ring's front. -/
theorem KM.first {w : World} {gc g mb : Nat} {c : Ck} {ns : List (Nat × Hd)} {k : Nat} {hd : Hd} {y : Nat} {B : List Nat} (h : KM w gc g mb c ns) (hn : Nod w k hd) (hk : k ∉ ns.map (·.1)) (hy : ns.map (·.1) ++ [gc] = y :: B) :
    KM ((((w.setCell ⟨k, 4, none⟩ (.pointer (some (ad gc gc)))).setCell ⟨k, 5, none⟩ (.pointer (some (ad gc y)))).setCell (nx gc gc) (.pointer (some ⟨k, 0, none⟩))).setCell (pv gc y) (.pointer (some ⟨k, 0, none⟩))) gc g mb c ((k, hd) :: ns) := by
  have hkg : k ≠ gc := hn.ne h.cb
  have ek : ad gc k = ⟨k, 0, none⟩ := by unfold ad ofs; rw [if_neg hkg]
  have ep : (⟨k, 4, none⟩ : Addr) = pv gc k := by unfold pv ofs; rw [if_neg hkg]
  have en : (⟨k, 5, none⟩ : Addr) = nx gc k := by unfold nx ofs; rw [if_neg hkg]
  rw [← ek, ep, en]
  have hym : y = gc ∨ y ∈ ns.map (·.1) := by
    have : y ∈ ns.map (·.1) ++ [gc] := by rw [hy]; simp
    exact (List.mem_append.1 this).symm.imp List.mem_singleton.1 id
  have hyk : y ≠ k := by
    rcases hym with rfl | hm
    · exact fun e => hkg e.symm
    · exact fun e => hk (e ▸ hm)
  obtain ⟨csk, hBk⟩ := hn.blk
  obtain ⟨ty, csy, hBy, hty⟩ := h.kind hym
  obtain ⟨tg, csg, hBg, htg⟩ := h.kind (b := gc) (.inl rfl)
  generalize hu1 : some (ad gc gc) = u1
  generalize hu2 : some (ad gc y) = u2
  generalize hu3 : some (ad gc k) = u3
  -- nodes
  have step : ∀ (W : World) (z : Nat × Hd) (b : Nat) (uu : Option Addr) (t : Nat) (cs : Array Value), Nod W z.1 z.2 → z.1 ≠ gc → Blk W b t cs → t ≠ 5 → Nod (W.setCell (nx gc b) (.pointer uu)) z.1 z.2 ∧ Nod (W.setCell (pv gc b) (.pointer uu)) z.1 z.2 := fun W z b uu t cs hz hzg hb ht =>
    ⟨hz.link uu (fun e => .inr (ofs_link.2 (e ▸ hzg)).2) hb ht, hz.link uu (fun e => .inl (ofs_link.2 (e ▸ hzg)).1) hb ht⟩
  have hN : ∀ z : Nat × Hd, Nod w z.1 z.2 → Nod ((((w.setCell (pv gc k) (.pointer u1)).setCell (nx gc k) (.pointer u2)).setCell (nx gc gc) (.pointer u3)).setCell (pv gc y) (.pointer u3)) z.1 z.2 := fun z hz => by
    have hzg := hz.ne h.cb
    have z1 := (step w z k u1 _ _ hz hzg hBk (by decide)).2
    obtain ⟨k1, b1⟩ := hBk.set_pv gc k (.pointer u1)
    have z2 := (step _ z k u2 _ _ z1 hzg b1 (by decide)).1
    obtain ⟨g1, c1⟩ := hBg.set_pv gc k (.pointer u1)
    obtain ⟨g2, c2⟩ := c1.set_nx gc k (.pointer u2)
    have z3 := (step _ z gc u3 _ _ z2 hzg c2 (kindK_ne htg).2.2.1).1
    obtain ⟨y1, d1⟩ := hBy.set_pv gc k (.pointer u1)
    obtain ⟨y2, d2⟩ := d1.set_nx gc k (.pointer u2)
    obtain ⟨y3, d3⟩ := d2.set_nx gc gc (.pointer u3)
    exact (step _ z y u3 _ _ z3 hzg d3 (kindK_ne hty).2.2.1).2
  have hl := h.lnk
  rw [hy] at hl
  obtain ⟨l1, l2, l3⟩ := hl
  have hdn : (gc :: ns.map (·.1)).Nodup := List.nodup_cons.2 ⟨h.gcn, h.dup⟩
  have hyB : y ∉ B := by
    have h2 : (ns.map (·.1) ++ [gc]).Nodup := by
      rw [List.nodup_append]
      exact ⟨h.dup, by simp, fun a ha b hb e => by simp at hb; subst hb; subst e; exact h.gcn ha⟩
    rw [hy, List.nodup_cons] at h2
    exact h2.1
  have hdl : (y :: B).dropLast = ns.map (·.1) := by rw [← hy, List.dropLast_concat]
  have hBm : ∀ a ∈ B, a = gc ∨ a ∈ ns.map (·.1) := fun a ha => by
    have : a ∈ ns.map (·.1) ++ [gc] := by rw [hy]; exact List.mem_cons_of_mem _ ha
    exact (List.mem_append.1 this).symm.imp List.mem_singleton.1 id
  refine ⟨(((h.cb.nxs k u1).2.nxs k u2).1.nxs gc u3).1.nxs y u3 |>.2, fun z hz => ?_, ?_, ?_⟩
  · rcases List.mem_cons.1 hz with rfl | hz
    · exact hN _ hn
    · exact hN z (h.nod z hz)
  · show Lnk _ gc (gc :: k :: (ns.map (·.1) ++ [gc]))
    rw [hy]
    have o1 : ∀ a, a ≠ k → pv gc a ≠ pv gc k := fun a ha => pv_ne ha
    refine ⟨?_, ?_, ?_, ?_, l3.keep (fun a ha => ?_) (fun a ha => ?_)⟩
    · rw [cso (fun e => nx_pv gc gc y e.symm), ← hu3]
      refine css (u := .pointer (some (ad gc y))) ?_
      rw [cso (nx_ne hkg), cso (fun e => nx_pv gc gc k e.symm)]
      exact l1
    · rw [cso (pv_ne hyk), cso (nx_pv gc gc k), cso (nx_pv gc k k), ← hu1]
      obtain ⟨vb, p, q, hB, _⟩ := hn
      exact css (u := .pointer p) (by rw [← ep]; exact hB.cell 4)
    · rw [cso (fun e => nx_pv gc k y e.symm), cso (nx_ne (fun e => hkg e.symm)), ← hu2]
      obtain ⟨vb, p, q, hB, _⟩ := hn
      refine css (u := .pointer q) ?_
      rw [cso (fun e => nx_pv gc k k e.symm), ← en]
      exact hB.cell 5
    · rw [← hu3]
      refine css (u := .pointer (some (ad gc gc))) ?_
      rw [cso (nx_pv gc gc y), cso (nx_pv gc k y), cso (pv_ne (fun e => hyk e.symm))]
      exact l2
    · rw [hdl] at ha
      have a1 : a ≠ k := fun e => hk (e ▸ ha)
      have a2 : a ≠ gc := fun e => h.gcn (e ▸ ha)
      rw [cso (fun e => nx_pv gc a y e.symm), cso (nx_ne (fun e => a2 e.symm)), cso (nx_ne (fun e => a1 e.symm)), cso (fun e => nx_pv gc a k e.symm)]
    · have ha : a ∈ B := ha
      have a1 : a ≠ k := fun e => by
        rcases hBm a ha with h5 | h5
        · exact hkg (e ▸ h5)
        · exact hk (e ▸ h5)
      have a2 : a ≠ y := fun e => hyB (e ▸ ha)
      rw [cso (pv_ne (fun e => a2 e.symm)), cso (nx_pv gc gc a), cso (nx_pv gc k a), cso (pv_ne (fun e => a1 e.symm))]
  · show (k :: ns.map (·.1)).Nodup
    exact List.nodup_cons.2 ⟨hk, h.dup⟩
end Go.Proofs.Ytfapehgjiglflaa
