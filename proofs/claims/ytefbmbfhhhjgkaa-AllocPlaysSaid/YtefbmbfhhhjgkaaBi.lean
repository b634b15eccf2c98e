/- Image. -/
import Derived.Test.YtefbmbfhhhjgkaaBs
namespace Go.Proofs.Ytefbmbfhhhjgkaa
open Go.RowKit
variable {F : Nat → Prop}
theorem SyncOff_callsF (w : World) (g : Nat) (d : Dk) (S : Nat → Prop) (hd : DKF F w g d S) (ho : d.off = true) :
    Calls Try.prog 56 #[.pointer (some ⟨g, 0, none⟩)] w (Ans w (.int .i64 6)) := by
  obtain ⟨gl, cl, mb, pk, lv, mf, hd, hs⟩ := hd
  have c2 : w.cell? ⟨g, 2, none⟩ = some (.bool true) := by have := hd.blk.cell 2; rw [this, ho]; rfl
  clear hd ho
  go_enter Try.func56, Try.ntmps56
  go_wp2
  go_ret
  exact ⟨rfl, rfl⟩
def imgK (d : Dk) (k : Nat) : List UInt8 := (List.range k).flatMap (lastP d)
def imgP (d : Dk) : List UInt8 := imgK d d.l.length
theorem imgK_succ (d : Dk) (k : Nat) : imgK d (k + 1) = imgK d k ++ lastP d k := by
  unfold imgK
  rw [List.range_succ, List.flatMap_append]
  simp
theorem imgK_lenF {w : World} {g : Nat} {d : Dk} {S : Nat → Prop} (hd : DKF F w g d S) : ∀ k, k ≤ d.l.length → (imgK d k).length = k * 512
  | 0, _ => rfl
  | k + 1, h => by rw [imgK_succ, List.length_append, imgK_lenF hd k (by omega), lastP_lenF hd (by omega)]; omega
def ImgOut (w : World) (bs : List UInt8) (e : Ending) (w' : World) : Prop := ∃ r, e = .returned r ∧ RdT (fun _ => True) 5 w' r (bvs bs) ∧ Below w.heap.size w w'
end Go.Proofs.Ytefbmbfhhhjgkaa
