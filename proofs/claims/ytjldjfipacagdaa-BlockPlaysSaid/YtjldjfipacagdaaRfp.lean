/- The document's disk: what its calls tell; it goes alike with the program's (plain). -/
import Derived.Test.YtjldjfipacagdaaBdo
namespace Go.Proofs.Ytjldjfipacagdaa
open Go.RowKit
structure Rf where
  l : List (List UInt8)
  wait : List (Nat × List UInt8)
  off : Bool
  armed : Int
  picks : List Int
  done : Int
def versL (w : List (Nat × List UInt8)) (n : Nat) : List (List UInt8) := (w.filter fun v => v.1 == n).map (·.2)
theorem versL_snoc (w : List (Nat × List UInt8)) (m : Nat) (b : List UInt8) (n : Nat) : versL (w ++ [(m, b)]) n = versL w n ++ (if m = n then [b] else []) := by
  unfold versL
  rw [List.filter_append, List.map_append]
  congr 1
  by_cases h : m = n
  · subst h; simp
  · simp [h]
theorem versL_nil (n : Nat) : versL [] n = [] := rfl
theorem versL_take (w : List (Nat × List UInt8)) {i : Nat} (h : i < w.length) (n : Nat) : versL (w.take (i + 1)) n = versL (w.take i) n ++ (if w[i].1 = n then [w[i].2] else []) := by
  rw [List.take_succ_eq_append_getElem h, versL_snoc]
theorem versL_le (w : List (Nat × List UInt8)) (n : Nat) : (versL w n).length ≤ w.length := by
  unfold versL
  rw [List.length_map]
  exact List.length_filter_le _ _
def lastR (r : Rf) (n : Nat) : List UInt8 := ((versL r.wait n).getLast?).getD (r.l.getD n [])
/-- The last version of a block stands at i. -/
theorem lastR_at {r : Rf} {n i : Nat} (h : i < r.wait.length) (hn : r.wait[i].1 = n) (hb : versL (r.wait.drop (i + 1)) n = []) : lastR r n = r.wait[i].2 := by
  unfold lastR
  have e : r.wait = r.wait.take i ++ ([r.wait[i]] ++ r.wait.drop (i + 1)) := by
    rw [List.singleton_append, ← List.drop_eq_getElem_cons h, List.take_append_drop]
  have e2 : versL r.wait n = versL (r.wait.take i) n ++ ([r.wait[i].2] ++ versL (r.wait.drop (i + 1)) n) := by
    conv => lhs; rw [e]
    unfold versL
    rw [List.filter_append, List.filter_append, List.map_append, List.map_append]
    congr 2
    simp [hn]
  rw [e2, hb, List.append_nil, List.getLast?_append]
  rfl
theorem versL_drop {w : List (Nat × List UInt8)} {n i : Nat} (h : i < w.length) (hn : w[i].1 ≠ n) (hb : versL (w.drop (i + 1)) n = []) : versL (w.drop i) n = [] := by
  rw [List.drop_eq_getElem_cons h]
  unfold versL at hb ⊢
  rw [List.filter_cons, if_neg (by simpa using hn)]
  exact hb
theorem lastR_none {r : Rf} {n : Nat} (hb : versL r.wait n = []) : lastR r n = r.l.getD n [] := by
  unfold lastR
  rw [hb]
  rfl
def imgRK (r : Rf) (k : Nat) : List UInt8 := (List.range k).flatMap (lastR r)
theorem imgRK_succ (r : Rf) (k : Nat) : imgRK r (k + 1) = imgRK r k ++ lastR r k := by
  unfold imgRK
  rw [List.range_succ, List.flatMap_append]
  simp
def askR (r : Rf) (n : Int) : Int := if r.off = true then 6 else if n < 0 ∨ (r.l.length : Int) ≤ n then 1 else 0
def readR (r : Rf) (n : Int) : List UInt8 × Int := if askR r n ≠ 0 then ([], askR r n) else (lastR r n.toNat, 0)
def idxR (r : Rf) (n : Nat) : Nat := ((List.range n).filter fun j => !(versL r.wait j).isEmpty).length
theorem idxR_succ (r : Rf) (n : Nat) : idxR r (n + 1) = idxR r n + (if versL r.wait n = [] then 0 else 1) := by
  unfold idxR
  rw [List.range_succ, List.filter_append, List.length_append]
  congr 1
  cases h : versL r.wait n <;> simp [h]
def cutBR (r : Rf) (picks : List Int) (n : Nat) : List UInt8 := pickB (r.l.getD n []) (versL r.wait n) (picks.getD (idxR r n) 0)
def cutR (r : Rf) (picks : List Int) : Rf := if r.off = true then r else ⟨(List.range r.l.length).map (cutBR r picks), [], true, 0, r.picks, r.done⟩
def cutLK (r : Rf) (picks : List Int) (k : Nat) : List (List UInt8) := (List.range r.l.length).map fun n => if n < k then cutBR r picks n else r.l.getD n []
theorem cutLK_len (r : Rf) (picks : List Int) (k : Nat) : (cutLK r picks k).length = r.l.length := by simp [cutLK]
theorem cutLK_zero (r : Rf) (picks : List Int) : cutLK r picks 0 = r.l := by
  unfold cutLK
  simp only [Nat.not_lt_zero, if_false]
  exact list_of_getD _ _
theorem cutLK_end (r : Rf) (picks : List Int) : cutLK r picks r.l.length = (List.range r.l.length).map (cutBR r picks) := by
  unfold cutLK
  exact List.map_congr_left fun n hn => if_pos (List.mem_range.1 hn)
theorem cutLK_set (r : Rf) (picks : List Int) {k : Nat} {b : List UInt8} (hb : b = cutBR r picks k) : (cutLK r picks k).set k b = cutLK r picks (k + 1) := by
  subst hb
  unfold cutLK
  refine map_range_set _ _ _ _ _ (by simp) (fun j hj => ?_)
  by_cases h : j < k
  · rw [if_pos h, if_pos (by omega)]
  · rw [if_neg h, if_neg (by omega)]
theorem cutLK_skip (r : Rf) (picks : List Int) {k : Nat} (hb : cutBR r picks k = r.l.getD k []) : cutLK r picks (k + 1) = cutLK r picks k := by
  unfold cutLK
  refine List.map_congr_left fun n hn => ?_
  by_cases h : n < k
  · rw [if_pos h, if_pos (by omega)]
  · by_cases h2 : n = k
    · subst h2; rw [if_neg h, if_pos (by omega), hb]
    · rw [if_neg h, if_neg (by omega)]
def writeR (r : Rf) (n : Int) (b : List UInt8) : Int × Rf :=
  if askR r n ≠ 0 then (askR r n, r) else if b.length ≠ 512 then (1, r) else if r.armed = 1 then (6, cutR r r.picks)
  else (0, ⟨r.l, r.wait ++ [(n.toNat, b)], r.off, if 0 < r.armed then r.armed - 1 else r.armed, r.picks, winc r.done⟩)
def setAll (l : List (List UInt8)) (w : List (Nat × List UInt8)) : List (List UInt8) := w.foldl (fun l v => l.set v.1 v.2) l
theorem setAll_take (l : List (List UInt8)) (w : List (Nat × List UInt8)) {i : Nat} (h : i < w.length) : setAll l (w.take (i + 1)) = (setAll l (w.take i)).set w[i].1 w[i].2 := by
  unfold setAll
  rw [List.take_succ_eq_append_getElem h, List.foldl_append]
  rfl
theorem setAll_len (l : List (List UInt8)) (w : List (Nat × List UInt8)) : (setAll l w).length = l.length := by
  unfold setAll
  induction w generalizing l with
  | nil => rfl
  | cons v w ih => rw [List.foldl_cons, ih, List.length_set]
theorem setAll_at (l : List (List UInt8)) (w : List (Nat × List UInt8)) (n : Nat) (hn : n < l.length) : (setAll l w).getD n [] = ((versL w n).getLast?).getD (l.getD n []) := by
  unfold setAll
  induction w generalizing l with
  | nil => rfl
  | cons v w ih =>
    rw [List.foldl_cons, ih _ (by rw [List.length_set]; exact hn)]
    unfold versL
    by_cases h : v.1 = n
    · have e : (List.filter (fun v => v.1 == n) (v :: w)).map (·.2) = v.2 :: (List.filter (fun v => v.1 == n) w).map (·.2) := by simp [h]
      rw [e, List.getLast?_cons, h]
      simp [List.getD_eq_getElem?_getD, List.getElem?_set_self hn]
    · have e : (List.filter (fun v => v.1 == n) (v :: w)).map (·.2) = (List.filter (fun v => v.1 == n) w).map (·.2) := by simp [h]
      rw [e]
      congr 1
      rw [List.getD_eq_getElem?_getD, List.getD_eq_getElem?_getD, List.getElem?_set_ne h]
def syncR (r : Rf) : Int × Rf := if r.off = true then (6, r) else (0, ⟨setAll r.l r.wait, [], r.off, r.armed, r.picks, r.done⟩)
def armR (r : Rf) (n : Int) (picks : List Int) : Rf := ⟨r.l, r.wait, r.off, if 1 ≤ n then n else 0, if 1 ≤ n then picks else [], r.done⟩
def onR (r : Rf) : Rf := ⟨r.l, r.wait, false, 0, r.picks, r.done⟩
def newR (N : Nat) : Rf := ⟨List.replicate N zblk, [], false, 0, [], 0⟩
/-- Both tell the same. -/
structure Alike (d : Dk) (r : Rf) : Prop where
  l : d.l = r.l
  wl : d.wt.length = d.l.length
  w : ∀ n, d.wt.getD n [] = versL r.wait n
  n : waitP d = r.wait.length
  off : d.off = r.off
  wr : d.wr = r.done
  arm : r.off = false → d.arm = r.armed
  pk : r.off = false → 0 < r.armed → d.picks = r.picks
  lo : ∀ v ∈ r.wait, v.1 < r.l.length
  len : ∀ b ∈ r.l, b.length = 512
  wlen : ∀ v ∈ r.wait, v.2.length = 512
theorem getD_repl (N n : Nat) : (List.replicate N ([] : List (List UInt8))).getD n [] = [] := by
  rw [List.getD_eq_getElem?_getD]
  by_cases h : n < N
  · rw [List.getElem?_replicate, if_pos h]; rfl
  · rw [List.getElem?_replicate, if_neg h]; rfl
namespace Alike
variable {d : Dk} {r : Rf}
theorem new (N : Nat) : Alike (newD N) (newR N) where
  l := rfl
  wl := by show (List.replicate N _).length = (List.replicate N _).length; simp
  w := fun n => getD_repl N n
  n := waitP_zero
  off := rfl
  wr := rfl
  arm := fun _ => rfl
  pk := fun _ _ => rfl
  lo := fun v hv => by cases hv
  len := fun b hb => by rw [List.eq_of_mem_replicate hb]; exact zblk_len
  wlen := fun v hv => by cases hv
theorem last (h : Alike d r) (n : Nat) : lastP d n = lastR r n := by
  unfold lastP lastR
  rw [h.w, h.l]
theorem ask (h : Alike d r) (n : Int) : askP d n = askR r n := by
  unfold askP askR
  rw [h.off, h.l]
theorem img (h : Alike d r) (k : Nat) : imgK d k = imgRK r k := by
  unfold imgK imgRK
  congr 1
  funext n
  exact h.last n
theorem cutB (h : Alike d r) (picks : List Int) (n : Nat) : cutB d picks n = cutBR r picks n := by
  unfold Go.Proofs.Ytjldjfipacagdaa.cutB cutBR
  have e : idxP d n = idxR r n := by
    unfold idxP idxR
    congr 1
    exact List.filter_congr fun j _ => by rw [h.w]
  rw [h.w, h.l, e]
theorem lastR_len (h : Alike d r) {n : Nat} (hn : n < r.l.length) : (lastR r n).length = 512 := by
  unfold lastR
  cases hv : (versL r.wait n).getLast? with
  | none =>
    rw [List.getD_eq_getElem?_getD, List.getElem?_eq_getElem hn]
    exact h.len _ (List.getElem_mem hn)
  | some b =>
    have h1 := List.mem_of_getLast? hv
    unfold versL at h1
    obtain ⟨v, hv1, rfl⟩ := List.mem_map.1 h1
    exact h.wlen v (List.mem_filter.1 hv1).1
theorem cutBR_len (h : Alike d r) (picks : List Int) {n : Nat} (hn : n < r.l.length) : (cutBR r picks n).length = 512 := by
  have h0 : (r.l.getD n []).length = 512 := by
    rw [List.getD_eq_getElem?_getD, List.getElem?_eq_getElem hn]
    exact h.len _ (List.getElem_mem hn)
  unfold cutBR pickB
  split
  · exact h0
  · rename_i k _
    rw [List.getD_eq_getElem?_getD]
    cases hv : (versL r.wait n)[k]? with
    | none => exact h0
    | some b =>
      have h1 := List.mem_of_getElem? hv
      unfold versL at h1
      obtain ⟨v, hv1, rfl⟩ := List.mem_map.1 h1
      exact h.wlen v (List.mem_filter.1 hv1).1
theorem cut (h : Alike d r) (ho : r.off = false) (picks : List Int) : Alike (cutD d picks) (cutR r picks) := by
  unfold cutR
  rw [if_neg (by simp [ho])]
  exact
  { l := by
      show (List.range d.l.length).map _ = (List.range r.l.length).map _
      rw [h.l]
      exact List.map_congr_left fun n _ => h.cutB picks n
    wl := by show (List.replicate _ _).length = (List.map _ _).length; simp
    w := fun n => getD_repl _ n
    n := waitP_cut _ _
    off := rfl
    wr := h.wr
    arm := fun e => by cases e
    pk := fun e => by cases e
    lo := fun v hv => by cases hv
    len := fun b hb => by
      obtain ⟨n, hn, rfl⟩ := List.mem_map.1 hb
      exact h.cutBR_len picks (List.mem_range.1 hn)
    wlen := fun v hv => by cases hv }
theorem cutOff (h : Alike d r) (ho : r.off = true) (picks : List Int) : Alike d (cutR r picks) := by
  unfold cutR
  rw [if_pos ho]
  exact h
theorem armed (h : Alike d r) (a : Int) (p : List Int) (h2 : r.off = false → d.arm = r.armed) : Alike (armed d a) ⟨r.l, r.wait, r.off, a, p, r.done⟩ ↔ (r.off = false → 0 < a → d.picks = p) :=
  ⟨fun h => h.pk, fun hp => ⟨h.l, h.wl, h.w, h.n, h.off, h.wr, fun _ => rfl, hp, h.lo, h.len, h.wlen⟩⟩
theorem write (h : Alike d r) (n : Int) (b : List UInt8) : (writeP d n b).1 = (writeR r n b).1 ∧ Alike (writeP d n b).2 (writeR r n b).2 := by
  unfold writeP writeR
  rw [h.ask]
  by_cases h0 : askR r n ≠ 0
  · rw [if_pos h0, if_pos h0]
    exact ⟨rfl, h⟩
  · rw [if_neg h0, if_neg h0]
    by_cases h1 : b.length ≠ 512
    · rw [if_pos h1, if_pos h1]
      exact ⟨rfl, h⟩
    · rw [if_neg h1, if_neg h1]
      have hok : askP d n = 0 := by rw [h.ask]; exact Decidable.not_not.1 h0
      obtain ⟨k, rfl, hk, hof⟩ := askP_ok hok
      have ho : r.off = false := by rw [← h.off]; exact hof
      rw [h.arm ho]
      by_cases h2 : r.armed = 1
      · rw [if_pos h2, if_pos h2]
        refine ⟨rfl, ?_⟩
        rw [h.pk ho (by omega)]
        have h3 : Alike (Go.Proofs.Ytjldjfipacagdaa.armed d 0) ⟨r.l, r.wait, r.off, 0, r.picks, r.done⟩ := (h.armed 0 _ h.arm).2 (fun _ h => by omega)
        have h4 := h3.cut ho r.picks
        unfold cutR at h4 ⊢
        rw [if_neg (by simp [ho])] at h4 ⊢
        exact h4
      · rw [if_neg h2, if_neg h2]
        refine ⟨rfl, ?_⟩
        have hkw : k < d.wt.length := by rw [h.wl]; exact hk
        rw [Int.toNat_natCast]
        exact
        { l := h.l
          wl := by show (List.set _ _ _).length = _; rw [List.length_set]; exact h.wl
          w := fun m => by
            show (List.set d.wt k (d.wt.getD k [] ++ [b])).getD m [] = versL (r.wait ++ [(k, b)]) m
            rw [versL_snoc, List.getD_eq_getElem?_getD]
            by_cases e : k = m
            · subst e
              rw [if_pos rfl, List.getElem?_set_self hkw, h.w]
              rfl
            · rw [if_neg e, List.getElem?_set_ne e, List.append_nil, ← List.getD_eq_getElem?_getD]
              exact h.w m
          n := by
            have e := waitP_add (Go.Proofs.Ytjldjfipacagdaa.armed d (if 0 < r.armed then r.armed - 1 else r.armed)) (k := k) hkw b
            rw [e]
            show waitP d + 1 = (r.wait ++ [(k, b)]).length
            rw [h.n, List.length_append]
            rfl
          off := h.off
          wr := by show winc d.wr = winc r.done; rw [h.wr]
          arm := fun _ => rfl
          pk := fun _ hp => h.pk ho (by
            have hp : 0 < (if 0 < r.armed then r.armed - 1 else r.armed) := hp
            split at hp <;> omega)
          lo := fun v hv => by
            rcases List.mem_append.1 hv with hv | hv
            · exact h.lo v hv
            · rw [List.mem_singleton.1 hv, ← h.l]; exact hk
          len := h.len
          wlen := fun v hv => by
            rcases List.mem_append.1 hv with hv | hv
            · exact h.wlen v hv
            · rw [List.mem_singleton.1 hv]; exact Decidable.not_not.1 h1 }
theorem sync (h : Alike d r) : (if d.off = true then (6, d) else (0, syncD d)).1 = (syncR r).1 ∧ Alike (if d.off = true then ((6 : Int), d) else (0, syncD d)).2 (syncR r).2 := by
  unfold syncR
  rw [h.off]
  by_cases ho : r.off = true
  · rw [if_pos ho, if_pos ho]
    exact ⟨rfl, h⟩
  · rw [if_neg ho, if_neg ho]
    refine ⟨rfl, ?_⟩
    have hl : (List.range d.l.length).map (lastP d) = setAll r.l r.wait := by
      rw [← list_of_getD (setAll r.l r.wait) [], setAll_len, h.l]
      refine List.map_congr_left fun n hn => ?_
      rw [setAll_at _ _ _ (List.mem_range.1 hn), h.last]
      rfl
    exact
    { l := hl
      wl := by show (List.replicate _ _).length = (List.map _ _).length; simp
      w := fun n => getD_repl _ n
      n := waitP_zero
      off := h.off
      wr := h.wr
      arm := h.arm
      pk := h.pk
      lo := fun v hv => by cases hv
      len := fun b hb => by
        have hb : b ∈ setAll r.l r.wait := hb
        rw [← hl] at hb
        obtain ⟨n, hn, rfl⟩ := List.mem_map.1 hb
        rw [h.last]
        exact h.lastR_len (by rw [← h.l]; exact List.mem_range.1 hn)
      wlen := fun v hv => by cases hv }
theorem armA (h : Alike d r) (n : Int) (picks : List Int) : Alike (armD d n picks) (armR r n picks) where
  l := h.l
  wl := h.wl
  w := h.w
  n := h.n
  off := h.off
  wr := h.wr
  arm := fun _ => by
    show imax n 0 = if 1 ≤ n then n else 0
    unfold imax
    split <;> omega
  pk := fun _ hp => by
    have hp : 0 < (if 1 ≤ n then n else 0) := hp
    show picks = if 1 ≤ n then picks else []
    by_cases h1 : 1 ≤ n
    · rw [if_pos h1]
    · rw [if_neg h1] at hp; omega
  lo := h.lo
  len := h.len
  wlen := h.wlen
theorem on (h : Alike d r) : Alike (onD d) (onR r) where
  l := h.l
  wl := h.wl
  w := h.w
  n := h.n
  off := rfl
  wr := h.wr
  arm := fun _ => rfl
  pk := fun _ hp => absurd hp (by show ¬ (0 : Int) < 0; omega)
  lo := h.lo
  len := h.len
  wlen := h.wlen
end Alike
end Go.Proofs.Ytjldjfipacagdaa
