/- The log, in plain words: what its calls do to a disk. -/
import Derived.Test.YtefbmbfhhhjgkaaWp
namespace Go.Proofs.Ytefbmbfhhhjgkaa
open Go.RowKit
/-- What a step does to a disk: its error, the disk behind it. -/
abbrev DW := Dk → Int × Dk
def seqW : List DW → DW
  | [], d => (0, d)
  | f :: r, d => if (f d).1 = 0 then seqW r (f d).2 else f d
def syncW : DW := fun d => if d.off = true then (6, d) else (0, syncD d)
def wrW (n : Int) (b : List UInt8) : DW := fun d => writeP d n b
def cleanS (n : Nat) : DW := fun d => if askP d n ≠ 0 then (askP d n, d) else if lastP d n = zblk then (0, d) else writeP d n zblk
def cleanW (N : Nat) : DW := seqW ((List.range N).map cleanS)
def copyW (i j : Int) : DW := fun d => if askP d i ≠ 0 then (askP d i, d) else writeP d j (lastP d i.toNat)
def homeW (ns : List Nat) : DW := seqW ((List.range ns.length).map fun i => copyW ((1 + i : Nat) : Int) ((65 + ns.getD i 0 : Nat) : Int))
def settleW (ns : List Nat) : DW := seqW [syncW, homeW ns, syncW, wrW 0 (headP []), syncW]
def askW (d : Dk) : Int := if d.l.length ≤ 65 then 1 else if d.off = true then 6 else 0
def formatW (N : Nat) : DW := seqW [wrW 0 zblk, syncW, cleanW N, syncW, wrW 0 (headP []), syncW]
def formatP (d : Dk) : Int × Dk := if askW d ≠ 0 then (askW d, d) else formatW d.l.length d
def copiesW (ns : List Nat) (f : Nat → Option (List UInt8)) : DW := seqW ((List.range ns.length).map fun i => wrW ((1 + i : Nat) : Int) ((f (ns.getD i 0)).getD []))
def lsyncW (ns : List Nat) (f : Nat → Option (List UInt8)) : DW := seqW [copiesW ns f, syncW, wrW 0 (headP ns), settleW ns]
/-- n numbers of two bytes. -/
def numsP : Nat → List UInt8 → List Nat
  | 0, _ => []
  | n + 1, rs => numP (rs.take 2) :: numsP n (rs.drop 2)
def headsP (b : List UInt8) (blocks : Nat) : Option (List Nat) :=
  if b.take 8 ≠ magicB then none else if 63 < numP ((b.drop 8).take 2) then none else
    if (numsP (numP ((b.drop 8).take 2)) (b.drop 10)).all (fun k => decide (k < blocks)) = true then some (numsP (numP ((b.drop 8).take 2)) (b.drop 10)) else none
def openP (d : Dk) : Int × Dk :=
  if askW d ≠ 0 then (askW d, d) else match headsP (lastP d 0) (d.l.length - 65) with
    | none => (3, d)
    | some ns => if ns = [] then (0, d) else settleW ns d
/-- A disk of N blocks, of which no more wait than M. -/
structure Fit (N M : Nat) (d : Dk) : Prop where
  dl : d.l.length = N
  wl : d.wt.length = N
  wt : waitP d ≤ M
  pk : d.picks.length ≤ 1000000000
  ar : d.arm ≤ 9223372036854775807
def Gr (N c : Nat) (f : DW) : Prop := ∀ M d, Fit N M d → Fit N (M + c) (f d).2
theorem Fit.mono {N M M' : Nat} {d : Dk} (h : Fit N M d) (hm : M ≤ M') : Fit N M' d := ⟨h.dl, h.wl, Nat.le_trans h.wt hm, h.pk, h.ar⟩
theorem Gr.mono {N c c' : Nat} {f : DW} (h : Gr N c f) (hc : c ≤ c') : Gr N c' f := fun M d hd => (h M d hd).mono (by omega)
theorem Gr.nil (N c : Nat) (e : Int) : Gr N c (fun d => (e, d)) := fun M d hd => hd.mono (by omega)
theorem Gr.seq {N c : Nat} : ∀ {fs : List DW}, (∀ f ∈ fs, Gr N c f) → Gr N (fs.length * c) (seqW fs)
  | [], _ => fun M d hd => hd.mono (by omega)
  | f :: r, h => fun M d hd => by
    have h1 := h f (by simp) M d hd
    unfold seqW
    split
    · refine (Gr.seq (fun f hf => h f (by simp [hf])) (M + c) _ h1).mono ?_
      rw [List.length_cons, Nat.succ_mul]
      omega
    · refine h1.mono ?_
      rw [List.length_cons, Nat.succ_mul]
      omega
theorem Fit.cut {N M : Nat} {d : Dk} (h : Fit N M d) (a : Int) (ha : a ≤ 9223372036854775807) (ps : List Int) : Fit N M (cutD (armed d a) ps) := by
  refine ⟨?_, ?_, ?_, h.pk, ha⟩
  · show (List.map _ (List.range _)).length = N
    rw [List.length_map, List.length_range]
    exact h.dl
  · show (List.replicate _ _).length = N
    rw [List.length_replicate]
    exact h.dl
  · have : waitP (cutD (armed d a) ps) = 0 := waitP_of (fun n => getD_replK _ n)
    omega
theorem Gr.write (N : Nat) (n : Int) (b : List UInt8) : Gr N 1 (wrW n b) := fun M d h => by
  unfold wrW writeP
  split
  · exact h.mono (by omega)
  · split
    · exact h.mono (by omega)
    · split
      · exact (h.cut 0 (by omega) _).mono (by omega)
      · refine ⟨h.dl, ?_, ?_, h.pk, ?_⟩
        · show (List.set _ _ _).length = N
          rw [List.length_set]
          exact h.wl
        · have h1 := waitP_addK (armed d (if 0 < d.arm then d.arm - 1 else d.arm)) n.toNat b
          have h2 : waitP (armed d (if 0 < d.arm then d.arm - 1 else d.arm)) = waitP d := rfl
          have h3 := h.wt
          show waitP (addD (armed d (if 0 < d.arm then d.arm - 1 else d.arm)) n.toNat b) ≤ M + 1
          omega
        · show (if 0 < d.arm then d.arm - 1 else d.arm) ≤ _
          have := h.ar
          split <;> omega
theorem Fit.sync {N M : Nat} {d : Dk} (h : Fit N M d) : Fit N 0 (syncD d) := by
  refine ⟨?_, ?_, ?_, h.pk, h.ar⟩
  · show (List.map _ (List.range _)).length = N
    rw [List.length_map, List.length_range]
    exact h.dl
  · show (List.replicate _ _).length = N
    rw [List.length_replicate]
    exact h.dl
  · have : waitP (syncD d) = 0 := waitP_of (fun n => getD_replK _ n)
    omega
theorem Gr.sync (N : Nat) : Gr N 0 syncW := fun M d h => by
  unfold syncW
  split
  · exact h
  · exact h.sync.mono (by omega)
theorem Gr.clean (N n : Nat) : Gr N 1 (cleanS n) := fun M d h => by
  unfold cleanS
  split
  · exact h.mono (by omega)
  · split
    · exact h.mono (by omega)
    · exact Gr.write N _ _ M d h
theorem Gr.copy (N : Nat) (i j : Int) : Gr N 1 (copyW i j) := fun M d h => by
  unfold copyW
  split
  · exact h.mono (by omega)
  · exact Gr.write N _ _ M d h
theorem Gr.cleanW (N K : Nat) : Gr N K (cleanW K) := by
  have := Gr.seq (N := N) (c := 1) (fs := (List.range K).map cleanS) (fun f hf => by
    obtain ⟨n, _, rfl⟩ := List.mem_map.1 hf
    exact Gr.clean N n)
  refine this.mono (by simp)
theorem Gr.homeW (N : Nat) (ns : List Nat) : Gr N ns.length (homeW ns) := by
  have := Gr.seq (N := N) (c := 1) (fs := (List.range ns.length).map fun i => copyW ((1 + i : Nat) : Int) ((65 + ns.getD i 0 : Nat) : Int)) (fun f hf => by
    obtain ⟨n, _, rfl⟩ := List.mem_map.1 hf
    exact Gr.copy N _ _)
  refine this.mono (by simp)
theorem Gr.copiesW (N : Nat) (ns : List Nat) (f : Nat → Option (List UInt8)) : Gr N ns.length (copiesW ns f) := by
  have := Gr.seq (N := N) (c := 1) (fs := (List.range ns.length).map fun i => wrW ((1 + i : Nat) : Int) ((f (ns.getD i 0)).getD [])) (fun f hf => by
    obtain ⟨n, _, rfl⟩ := List.mem_map.1 hf
    exact Gr.write N _ _)
  refine this.mono (by simp)
theorem Gr.settleW (N : Nat) (ns : List Nat) : Gr N (5 * (ns.length + 1)) (settleW ns) := by
  refine Gr.seq (c := ns.length + 1) (fs := [syncW, Go.Proofs.Ytefbmbfhhhjgkaa.homeW ns, syncW, wrW 0 (headP []), syncW]) (fun f hf => ?_)
  simp only [List.mem_cons, List.not_mem_nil, or_false] at hf
  rcases hf with rfl | rfl | rfl | rfl | rfl
  · exact (Gr.sync N).mono (by omega)
  · exact (Gr.homeW N ns).mono (by omega)
  · exact (Gr.sync N).mono (by omega)
  · exact (Gr.write N _ _).mono (by omega)
  · exact (Gr.sync N).mono (by omega)
theorem Gr.formatW (N K : Nat) : Gr N (6 * (K + 1)) (formatW K) := by
  refine Gr.seq (c := K + 1) (fs := [wrW 0 zblk, syncW, Go.Proofs.Ytefbmbfhhhjgkaa.cleanW K, syncW, wrW 0 (headP []), syncW]) (fun f hf => ?_)
  simp only [List.mem_cons, List.not_mem_nil, or_false] at hf
  rcases hf with rfl | rfl | rfl | rfl | rfl | rfl
  · exact (Gr.write N _ _).mono (by omega)
  · exact (Gr.sync N).mono (by omega)
  · exact (Gr.cleanW N K).mono (by omega)
  · exact (Gr.sync N).mono (by omega)
  · exact (Gr.write N _ _).mono (by omega)
  · exact (Gr.sync N).mono (by omega)
theorem Gr.lsyncW (N : Nat) (ns : List Nat) (f : Nat → Option (List UInt8)) : Gr N (4 * (5 * (ns.length + 1))) (lsyncW ns f) := by
  refine Gr.seq (c := 5 * (ns.length + 1)) (fs := [Go.Proofs.Ytefbmbfhhhjgkaa.copiesW ns f, syncW, wrW 0 (headP ns), Go.Proofs.Ytefbmbfhhhjgkaa.settleW ns]) (fun f hf => ?_)
  simp only [List.mem_cons, List.not_mem_nil, or_false] at hf
  rcases hf with rfl | rfl | rfl | rfl
  · exact (Gr.copiesW N ns _).mono (by omega)
  · exact (Gr.sync N).mono (by omega)
  · exact (Gr.write N _ _).mono (by omega)
  · exact (Gr.settleW N ns).mono (by omega)
end Go.Proofs.Ytefbmbfhhhjgkaa
