/- Steps of a disk in memory: a block set, versions dropped, a version added. -/
import Derived.Test.YtefbmbfhhhjgkaaBp
namespace Go.Proofs.Ytefbmbfhhhjgkaa
open Go.RowKit
variable {F : Nat → Prop}
section
variable {w w' w1 w2 w3 : World} {g gl cl mb : Nat} {pk : Value} {lv : List Value} {mf : Nat → Option Value} {d : Dk}
theorem Dsk.gne (h : Dsk F w g gl cl mb pk lv mf d) : g ≠ gl ∧ g ≠ mb ∧ gl ≠ mb := by
  obtain ⟨cs, hc⟩ := own_blk h.row
  exact ⟨h.blk.ne_ hc (by decide), h.map.blk_ne h.blk, h.map.blk_ne hc⟩
theorem Dsk.vne (h : Dsk F w g gl cl mb pk lv mf d) {j b : Nat} {v : Value} (hv : mf j = some v) (hb : v.ownBlock = some b) : b ≠ g ∧ b ≠ gl ∧ b ≠ mb ∧ b < w.heap.size := by
  obtain ⟨b', c, us, vs, _, _, rfl, ho, hgl, _⟩ := h.mfat hv
  have e : b' = b := by simpa [Value.ownBlock] using hb
  subst e
  obtain ⟨cs, hc⟩ := own_blk ho
  exact ⟨hc.ne_ h.blk (by decide), hgl, h.map.blk_ne hc, hc.lt⟩
theorem Dsk.setl (h : Dsk F w g gl cl mb pk lv mf d) {k : Nat} (hk : k < d.l.length) {u : Value} {b : List UInt8} (hu : RdT F 5 w u (bvs b)) (hb : b.length = 512) :
    Dsk F (w.setCell ⟨gl, k, none⟩ u) g gl cl mb pk (lv.set k u) mf ⟨d.l.set k b, d.wt, d.off, d.wr, d.arm, d.picks⟩ := by
  obtain ⟨n1, n2, n3⟩ := h.gne
  have hc : Chg (fun j => j = gl) w (w.setCell ⟨gl, k, none⟩ u) := (Chg.refl (fun j => j = gl) w).at_ rfl _
  obtain ⟨cs, hcs⟩ := own_blk h.row
  have h8 : ∀ k cs, Blk w k 5 cs → ¬ k = gl := fun k cs hk => hk.ne_ hcs (by decide)
  have hi : ∀ k cs, Blk w k 3 cs → ¬ k = gl := fun k cs hk => hk.ne_ hcs (by decide)
  refine ⟨?_, ?_, by rw [List.length_set]; exact h.wtl, fun i u' b' h1 h2 => ?_, fun b' hb' => ?_, ?_, fun j vs hj => ?_, h.vlen, h.apart, h.pick.chg hc hi⟩
  · rw [List.length_set]; exact h.blk.far n1 _
  · rw [List.length_set]; exact (World.ownsRow.stored h.row k u).1
  · rw [List.getElem?_set] at h1 h2
    by_cases e : k = i
    · subst e
      rw [if_pos rfl, if_pos (by rw [h.lvl]; exact hk)] at h1
      rw [if_pos rfl, if_pos hk] at h2
      cases h1
      cases h2
      exact hu.chg hc h8
    · rw [if_neg e] at h1 h2
      exact (h.dat i u' b' h1 h2).chg hc h8
  · rcases List.mem_or_eq_of_mem_set hb' with h1 | h1
    · exact h.len _ h1
    · rw [h1]; exact hb
  · rw [List.length_set]; exact h.map.chg hc (fun e => n3 e.symm)
  · rcases h.ver j vs hj with h1 | ⟨h1, b', c, us, h2, h3, h4, h5⟩
    · exact .inl h1
    · exact .inr ⟨h1, b', c, us, h2, own_keep h3 (hc.block b' (h.vne h2 rfl).2.2.2 h4), h4, fun i u x h6 h7 => (h5 i u x h6 h7).chg hc h8⟩
theorem Dsk.mchg (ht : w.mapTurned w' mb) : Chg (fun j => j = mb) w w' := Chg.turned ht rfl
theorem Dsk.del (h : Dsk F w g gl cl mb pk lv mf d) {k : Nat} (hm : IM Try.prog 3 w' mb d.l.length (fun j => if j = k then none else mf j)) (ht : w.mapTurned w' mb) :
    Dsk F w' g gl cl mb pk lv (fun j => if j = k then none else mf j) ⟨d.l, d.wt.set k [], d.off, d.wr, d.arm, d.picks⟩ := by
  obtain ⟨n1, n2, n3⟩ := h.gne
  have hc : Chg (fun j => j = mb) w w' := Chg.turned ht rfl
  have h8 : ∀ k cs, Blk w k 5 cs → ¬ k = mb := fun k cs hk => h.map.blk_ne hk
  have hi : ∀ k cs, Blk w k 3 cs → ¬ k = mb := fun k cs hk => h.map.blk_ne hk
  have sub : ∀ j v, (if j = k then none else mf j) = some v → j ≠ k ∧ mf j = some v := fun j v hv => by
    by_cases e : j = k
    · rw [if_pos e] at hv; cases hv
    · rw [if_neg e] at hv; exact ⟨e, hv⟩
  refine ⟨h.blk.chg hc n2, own_keep h.row (hc.block gl (h.lt (.inr (.inl rfl))) n3), by rw [List.length_set]; exact h.wtl, fun i u' b' h1 h2 => (h.dat i u' b' h1 h2).chg hc h8, h.len, hm, fun j vs hj => ?_, fun vs hvs b hb => ?_, fun i j v v' b h1 h2 => h.apart i j v v' b (sub i v h1).2 (sub j v' h2).2, h.pick.chg hc hi⟩
  · rw [List.getElem?_set] at hj
    by_cases e : k = j
    · subst e
      rw [if_pos rfl] at hj
      split at hj
      · cases hj
        exact .inl ⟨rfl, if_pos rfl⟩
      · cases hj
    · rw [if_neg e] at hj
      rcases h.ver j vs hj with ⟨h0, h1⟩ | ⟨h1, b', c, us, h2, h3, h4, h5⟩
      · exact .inl ⟨h0, by rw [if_neg (fun x => e x.symm)]; exact h1⟩
      · exact .inr ⟨h1, b', c, us, by rw [if_neg (fun x => e x.symm)]; exact h2, own_keep h3 (hc.block b' (h.vne h2 rfl).2.2.2 (h.vne h2 rfl).2.2.1), h4, fun i u x h6 h7 => (h5 i u x h6 h7).chg hc h8⟩
  · rcases List.mem_or_eq_of_mem_set hvs with h1 | h1
    · exact h.vlen _ h1 b hb
    · rw [h1] at hb; cases hb
theorem Dsk.addv (h : Dsk F w1 g gl cl mb pk lv mf d) {k : Nat} (hk : k < d.l.length) {v v' : Value} (hv : (mf k).getD (.slice none 0 0) = v) {us' : List Value} {vs : List (List UInt8)} {b : List UInt8} (hvs : d.wt[k]? = some vs)
    (hown : w2.ownsRow 0 63 1 v' (vs.length + 1) us') (hus : ∀ (i : Nat) (u : Value) (x : List UInt8), us'[i]? = some u → (vs ++ [b])[i]? = some x → RdT F 5 w1 u (bvs x)) (hg : w1.grownBy w2 v.ownBlock) (hat : v'.ownBlock = v.ownBlock ∨ v'.ownBlock = some w1.heap.size)
    (hm : IM Try.prog 3 w3 mb d.l.length (fun j => if j = k then some v' else mf j)) (ht : w2.mapTurned w3 mb) (hb : b.length = 512) :
    Dsk F w3 g gl cl mb pk lv (fun j => if j = k then some v' else mf j) ⟨d.l, d.wt.set k (vs ++ [b]), d.off, d.wr, d.arm, d.picks⟩ := by
  obtain ⟨n1, n2, n3⟩ := h.gne
  have hc1 : Chg (fun j => v.ownBlock = some j ∨ j = mb) w1 w2 := (Chg.refl _ w1).grown hg (fun j hj _ => .inl hj)
  have hc : Chg (fun j => v.ownBlock = some j ∨ j = mb) w1 w3 := hc1.then_ (Dsk.mchg ht) (fun i _ hi => .inr hi)
  have vb : ∀ j, v.ownBlock = some j → ∃ u, mf k = some u ∧ u.ownBlock = some j := fun j hj => by
    cases hmk : mf k with
    | none => rw [hmk] at hv; rw [← hv] at hj; simp [Value.ownBlock] at hj
    | some u => rw [hmk] at hv; exact ⟨u, rfl, by rw [← hj, ← hv]; rfl⟩
  have vn : ∀ j, v.ownBlock = some j → j ≠ g ∧ j ≠ gl ∧ j ≠ mb ∧ j < w1.heap.size ∧ ∃ cs, Blk w1 j 63 cs := fun j hj => by
    obtain ⟨u, h1, h2⟩ := vb j hj
    obtain ⟨a1, a2, a3, a4⟩ := h.vne h1 h2
    obtain ⟨b', c, us, vs', _, _, rfl, ho, hgl, _⟩ := h.mfat h1
    have e : b' = j := by simpa [Value.ownBlock] using h2
    subst e
    obtain ⟨cs, hcs⟩ := own_blk ho
    exact ⟨a1, a2, a3, a4, cs, hcs⟩
  have off : ∀ {t : Nat} {j : Nat} {cs : Array Value}, Blk w1 j t cs → t ≠ 63 → ¬ (v.ownBlock = some j ∨ j = mb) := fun hj ht hx => by
    rcases hx with hx | rfl
    · obtain ⟨_, _, _, _, cs', hc'⟩ := vn _ hx
      exact absurd rfl (hj.ne_ hc' ht)
    · exact h.map.blk_ne hj rfl
  have h8 : ∀ k cs, Blk w1 k 5 cs → ¬ (v.ownBlock = some k ∨ k = mb) := fun k cs hk => off hk (by decide)
  obtain ⟨g', c', rfl⟩ := own_at hown (by omega)
  have hg' : v.ownBlock = some g' ∨ g' = w1.heap.size := by
    rcases hat with e | e
    · exact .inl (by rw [← e]; rfl)
    · exact .inr (by simpa [Value.ownBlock] using e)
  have hgm : g' ≠ mb := by
    rcases hg' with e | e
    · exact (vn _ e).2.2.1
    · have := h.map.lt; omega
  have hgl2 : g' ≠ gl := by
    rcases hg' with e | e
    · exact (vn _ e).2.1
    · have := h.lt (.inr (.inl rfl)); omega
  have hg2 : g' < w2.heap.size := by
    obtain ⟨cs, hcs⟩ := own_blk hown
    exact hcs.lt
  refine ⟨h.blk.chg hc (off h.blk (by decide)), own_keep h.row (hc.block gl (h.lt (.inr (.inl rfl))) (fun hx => ?_)), by rw [List.length_set]; exact h.wtl, fun i u' b' h1 h2 => (h.dat i u' b' h1 h2).chg hc h8, h.len, hm, fun j vs0 hj => ?_, fun vs0 hvs0 b0 hb0 => ?_, ?_, h.pick.chg hc (fun k cs hk => off hk (by decide))⟩
  · rcases hx with hx | hx
    · exact (vn _ hx).2.1 rfl
    · exact n3 hx
  · rw [List.getElem?_set] at hj
    by_cases e : k = j
    · subst e
      rw [if_pos rfl] at hj
      split at hj
      · cases hj
        refine .inr ⟨by simp, g', c', us', by rw [if_pos rfl, List.length_append]; rfl, ?_, hgl2, fun i u x h6 h7 => (hus i u x h6 h7).chg hc h8⟩
        rw [List.length_append]
        exact own_keep hown ((Dsk.mchg ht).block g' hg2 hgm)
      · cases hj
    · rw [if_neg e] at hj
      rcases h.ver j vs0 hj with ⟨h0, h1⟩ | ⟨h1, b', c, us, h2, h3, h4, h5⟩
      · exact .inl ⟨h0, by rw [if_neg (fun x => e x.symm)]; exact h1⟩
      · refine .inr ⟨h1, b', c, us, by rw [if_neg (fun x => e x.symm)]; exact h2, own_keep h3 (hc.block b' (h.vne h2 rfl).2.2.2 (fun hx => ?_)), h4, fun i u x h6 h7 => (h5 i u x h6 h7).chg hc h8⟩
        rcases hx with hx | hx
        · obtain ⟨u, e1, e2⟩ := vb _ hx
          exact e (h.apart k j _ _ _ e1 h2 e2 rfl)
        · exact (h.vne h2 rfl).2.2.1 hx
  · rcases List.mem_or_eq_of_mem_set hvs0 with h1 | h1
    · exact h.vlen _ h1 b0 hb0
    · rw [h1] at hb0
      rcases List.mem_append.1 hb0 with h2 | h2
      · exact h.vlen _ (List.mem_of_getElem? hvs) _ h2
      · rw [List.mem_singleton.1 h2]; exact hb
  · intro i j u u' bb h1 h2 h3 h4
    have one : ∀ (i j : Nat) (u u' : Value), (if i = k then some (Value.slice (some ⟨g', 0, none⟩) (vs.length + 1) c') else mf i) = some u → mf j = some u' → u.ownBlock = some bb → u'.ownBlock = some bb → i = j := fun i j u u' h1 h2 h3 h4 => by
      by_cases e : i = k
      · rw [if_pos e] at h1
        cases h1
        have e2 : g' = bb := by simpa [Value.ownBlock] using h3
        subst e2
        rcases hg' with hx | hx
        · obtain ⟨u1, e3, e4⟩ := vb _ hx
          rw [e]
          exact h.apart k j _ _ _ e3 h2 e4 h4
        · have := (h.vne h2 h4).2.2.2
          omega
      · rw [if_neg e] at h1
        exact h.apart i j _ _ _ h1 h2 h3 h4
    by_cases e1 : i = k
    · by_cases e2 : j = k
      · rw [e1, e2]
      · rw [if_neg e2] at h2
        exact one i j u u' h1 h2 h3 h4
    · rw [if_neg e1] at h1
      exact (one j i u' u h2 h1 h4 h3).symm
end
end Go.Proofs.Ytefbmbfhhhjgkaa
