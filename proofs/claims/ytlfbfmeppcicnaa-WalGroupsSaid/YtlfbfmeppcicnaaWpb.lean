/- The log with power, unarmed: opened, committed to, cut and on again, in plain words. -/
import Derived.Test.YtlfbfmeppcicnaaWpa
namespace Go.Proofs.Ytlfbfmeppcicnaa
open Go.RowKit
theorem b8_val (n : Int) : ((b8 n).toNat : Int) = n % 256 := by
  unfold b8
  rw [UInt8.toNat_ofNat']
  omega
theorem numP_le16 {n : Nat} (h : n < 65536) : numP (le16 (n : Int)) = n := by
  have h0 := b8_val (n : Int)
  have h1 := b8_val ((n : Int) / 256)
  have : ((numP (le16 (n : Int)) : Nat) : Int) = n := by
    simp only [numP, le16]
    omega
  omega
theorem numsP_flat : ∀ (ns : List Nat) (r : List UInt8), (∀ n ∈ ns, n < 65536) → numsP ns.length ((ns.flatMap fun n : Nat => le16 (n : Int)) ++ r) = ns
  | [], _, _ => rfl
  | a :: l, r, h => by
    rw [List.length_cons, numsP, List.flatMap_cons, List.append_assoc]
    have h2 : (le16 (a : Int) ++ ((l.flatMap fun n : Nat => le16 (n : Int)) ++ r)).take 2 = le16 (a : Int) := List.take_left' rfl
    have h3 : (le16 (a : Int) ++ ((l.flatMap fun n : Nat => le16 (n : Int)) ++ r)).drop 2 = (l.flatMap fun n : Nat => le16 (n : Int)) ++ r := List.drop_left' rfl
    rw [h2, h3, numP_le16 (h a (by simp)), numsP_flat l r fun n hn => h n (by simp [hn])]
theorem headsP_headP {ns : List Nat} {B : Nat} (hl : ns.length ≤ 63) (hb : ∀ n ∈ ns, n < B) (hB : B ≤ 65536) : headsP (headP ns) B = some ns := by
  have e : headP ns = magicB ++ (le16 (ns.length : Int) ++ ((ns.flatMap fun n : Nat => le16 (n : Int)) ++ List.replicate (502 - 2 * ns.length) 0)) := by
    unfold headP headB
    simp only [List.append_assoc]
  have h8 : (headP ns).take 8 = magicB := by rw [e]; exact List.take_left' rfl
  have d8 : (headP ns).drop 8 = le16 (ns.length : Int) ++ ((ns.flatMap fun n : Nat => le16 (n : Int)) ++ List.replicate (502 - 2 * ns.length) 0) := by rw [e]; exact List.drop_left' rfl
  have d10 : (headP ns).drop 10 = (ns.flatMap fun n : Nat => le16 (n : Int)) ++ List.replicate (502 - 2 * ns.length) 0 := by
    rw [show (10 : Nat) = 8 + 2 from rfl, ← List.drop_drop, d8]
    exact List.drop_left' rfl
  have hn : numP (((headP ns).drop 8).take 2) = ns.length := by
    rw [d8, List.take_left' (show (le16 (ns.length : Int)).length = 2 from rfl), numP_le16 (by omega)]
  unfold headsP
  rw [if_neg (show ¬ ((headP ns).take 8 ≠ magicB) by rw [h8]; simp), hn, if_neg (show ¬ 63 < ns.length by omega), d10, numsP_flat ns _ fun n h => by have := hb n h; omega]
  rw [if_pos (List.all_eq_true.2 fun n h => by simpa using hb n h)]
theorem headsP_zblk (B : Nat) : headsP zblk B = none := by
  unfold headsP
  rw [if_pos]
  intro h
  have h1 := congrArg (fun l => l.getD 0 0) h
  have h2 : (zblk.take 8).getD 0 0 = 0 := by
    unfold zblk
    rw [List.take_replicate]
    rfl
  rw [h2] at h1
  exact absurd h1 (by decide)
theorem open_ok {N M : Nat} {d : Dk} {V : Nat → List UInt8} (h : Vw N M d V) (hN : 65 < N) (h0 : V 0 = headP []) (hB : N ≤ 65536) : openP d = (0, d) := by
  have ha : askW d = 0 := by
    unfold askW
    rw [if_neg (by rw [h.dl]; omega), if_neg (by simp [h.of])]
  unfold openP
  rw [if_neg (by simp [ha]), h.vw 0 (by omega), h0, headsP_headP (by decide) (by simp) (by rw [h.dl]; omega)]
  rfl
theorem LA.fresh {N : Nat} {d : Dk} {V : Nat → List UInt8} (hv : Vw N 0 d V) (hs : Stl d) (h0 : V 0 = headP []) : LA N (freshK d) V :=
  ⟨hv, hs, h0, fun n b e => (by cases e), by
    show (ksW _ fun _ => none).length ≤ 63
    unfold ksW
    rw [List.filter_eq_nil_iff.2 (by simp)]
    simp⟩
theorem cut_on {N M : Nat} {d : Dk} {V : Nat → List UInt8} (h : Vw N M d V) (hs : Stl d) (picks : List Int) : Vw N 0 (onD (cutD d picks)) V ∧ Stl (onD (cutD d picks)) := by
  have hwt : ∀ n, (onD (cutD d picks)).wt.getD n [] = [] := fun n => getD_replK _ n
  refine ⟨⟨?_, ?_, rfl, rfl, rfl, Nat.le_of_eq (waitP_of hwt), fun n hn => ?_, h.b5⟩, hwt⟩
  · show (List.map _ (List.range _)).length = N
    rw [List.length_map, List.length_range, h.dl]
  · show (List.replicate _ _).length = N
    rw [List.length_replicate, h.dl]
  · have e : (onD (cutD d picks)).l.getD n [] = V n := by
      show (List.map (cutB d picks) (List.range d.l.length)).getD n [] = _
      rw [h.dl, List.getD_eq_getElem?_getD, List.getElem?_map, List.getElem?_range hn]
      show cutB d picks n = _
      unfold cutB
      rw [hs n, pickB_nil, ← h.vw n hn]
      show _ = ((d.wt.getD n []).getLast?).getD (d.l.getD n [])
      rw [hs n]
      rfl
    show (((onD (cutD d picks)).wt.getD n []).getLast?).getD ((onD (cutD d picks)).l.getD n []) = _
    rw [hwt n, e]
    rfl
theorem filter_or (p q : Nat → Bool) : ∀ l : List Nat, (l.filter fun k => p k || q k).length = (l.filter q).length + ((l.filter p).filter fun k => !q k).length
  | [] => rfl
  | a :: r => by
    have ih := filter_or p q r
    cases hp : p a <;> cases hq : q a <;> simp [List.filter_cons, hp, hq] <;> simp at ih <;> omega
theorem ksW_merge (N : Nat) (f1 f2 : Nat → Option (List UInt8)) : (ksW N (mergeF f1 f2)).length = (ksW N f1).length + ((ksW N f2).filter fun k => !(f1 k).isSome).length := by
  rw [show ksW N (mergeF f1 f2) = (List.range N).filter fun k => (f2 k).isSome || (f1 k).isSome from List.filter_congr fun k _ => by
    unfold mergeF
    cases f2 k <;> simp]
  exact filter_or (fun k => (f2 k).isSome) (fun k => (f1 k).isSome) (List.range N)
theorem ksW_none (N : Nat) (f : Nat → Option (List UInt8)) : ksW N (mergeF (fun _ => none) f) = ksW N f := List.filter_congr fun k _ => by
  unfold mergeF
  cases f k <;> rfl
/-- A transaction's writes are blocks of the log. -/
structure TOk (B : Nat) (t : Tk) : Prop where
  wl : ∀ n b, t.m n = some b → n < B ∧ b.length = 512
  k63 : (ksW B t.m).length ≤ 63
theorem TOk.fresh (B : Nat) (ov : Bool) : TOk B ⟨fun _ => none, ov⟩ := ⟨fun n b e => (by cases e), by
  show (ksW _ fun _ => none).length ≤ 63
  unfold ksW
  rw [List.filter_eq_nil_iff.2 (by simp)]
  simp⟩
theorem commit_ok {N : Nat} {x : Lk} {V : Nat → List UInt8} (h : LA N x V) (hN : 65 < N) {t : Tk} (ht : TOk (N - 65) t) (ho : t.ov = false) :
    ∃ y V', commitP (N - 65) x t = (0, y, ⟨t.m, true⟩) ∧ LA N y V' ∧ (∀ n, n < N - 65 → datP y V' n = (t.m n).getD (datP x V n)) ∧ y.op = false ∧ y.pn = (if fitsP (N - 65) x t = true then x.pn + 1 else 1) ∧ (∀ n, fitsP (N - 65) x t = true → V' n = V n) := by
  unfold commitP
  rw [if_neg (show ¬ (t.ov = true) by rw [ho]; decide), if_neg (show ¬ (x.d.off = true) by rw [h.vw.of]; decide)]
  cases hf : fitsP (N - 65) x t with
  | true =>
    have hs : syncOr (N - 65) x t = (0, x) := by unfold syncOr; rw [if_pos hf]
    rw [hs, if_neg (by simp)]
    refine ⟨_, V, rfl, ⟨h.vw, h.st, h.h0, fun n b e => ?_, ?_⟩, fun n hn => ?_, rfl, rfl, fun _ _ => rfl⟩
    · show n < N - 65 ∧ _
      have e : mergeF x.wt t.m n = some b := e
      unfold mergeF at e
      cases hm : t.m n with
      | none => rw [hm] at e; exact h.wl n b e
      | some b2 => rw [hm] at e; cases e; exact ht.wl n _ hm
    · show (ksW (N - 65) (mergeF x.wt t.m)).length ≤ 63
      rw [ksW_merge]
      unfold fitsP at hf
      exact of_decide_eq_true hf
    · show (mergeF x.wt t.m n).getD _ = _
      unfold mergeF datP
      cases t.m n <;> rfl
  | false =>
    obtain ⟨d', V', e, hl, hv⟩ := h.lsync hN
    have hs : syncOr (N - 65) x t = (0, ⟨d', fun _ => none, 0, x.op⟩) := by unfold syncOr; rw [if_neg (by rw [hf]; decide)]; exact e
    rw [hs, if_neg (by simp)]
    refine ⟨_, V', rfl, ⟨hl.vw, hl.st, hl.h0, fun n b e => ?_, ?_⟩, fun n hn => ?_, rfl, rfl, fun _ h => by cases h⟩
    · have e : mergeF (fun _ => none) t.m n = some b := e
      unfold mergeF at e
      cases hm : t.m n with
      | none => rw [hm] at e; cases e
      | some b2 => rw [hm] at e; cases e; exact ht.wl n _ hm
    · show (ksW (N - 65) (mergeF (fun _ => none) t.m)).length ≤ 63
      rw [ksW_none]
      exact ht.k63
    · show (mergeF (fun _ => none) t.m n).getD (V' (65 + n)) = _
      rw [hv n hn]
      unfold mergeF
      cases t.m n <;> rfl
end Go.Proofs.Ytlfbfmeppcicnaa
