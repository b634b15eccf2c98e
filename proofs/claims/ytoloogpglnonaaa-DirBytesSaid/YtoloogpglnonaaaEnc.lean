/- A node's bytes. -/
import Derived.Test.YtoloogpglnonaaaIn2
namespace Go.Proofs.Ytoloogpglnonaaa
open Go.RowKit
structure Nd where
  (kind links size d0 d1 d2 d3 d4 d5 d6 d7 one two : Int)
def Nd.cells (n : Nd) : Array Value := #[.int .i64 n.kind, .int .i64 n.links, .int .i64 n.size, .int .i64 n.d0, .int .i64 n.d1, .int .i64 n.d2, .int .i64 n.d3, .int .i64 n.d4, .int .i64 n.d5, .int .i64 n.d6, .int .i64 n.d7, .int .i64 n.one, .int .i64 n.two]
def Nd.ds (n : Nd) : List Int := [n.d0, n.d1, n.d2, n.d3, n.d4, n.d5, n.d6, n.d7]
def encH (n : Nd) : List UInt8 := [] ++ [b8 n.kind] ++ [b8 0] ++ le16 n.links ++ le32 n.size
def encD (n : Nd) (k : Nat) : List UInt8 := encH n ++ (n.ds.take k).flatMap le32
def encT (n : Nd) : List UInt8 := encD n 8 ++ le32 n.one ++ le32 n.two
def encB (n : Nd) : List UInt8 := encT n ++ (([] : List UInt8).take 12 ++ List.replicate (12 - ([] : List UInt8).length) 0)
def encP (n : Nd) : List UInt8 := sealP (encB n)
theorem encH_len (n : Nd) : (encH n).length = 8 := rfl
theorem flat_len : ∀ (l : List Int), (l.flatMap le32).length = 4 * l.length
  | [] => rfl
  | a :: l => by rw [List.flatMap_cons, List.length_append, flat_len l, le32_len, List.length_cons]; omega
theorem encD_len (n : Nd) {k : Nat} (h : k ≤ 8) : (encD n k).length = 8 + 4 * k := by
  unfold encD
  rw [List.length_append, encH_len, flat_len, List.length_take]
  simp [Nd.ds]
  omega
theorem encT_len (n : Nd) : (encT n).length = 48 := by
  unfold encT
  rw [List.length_append, List.length_append, encD_len n (Nat.le_refl 8)]
  rfl
theorem encB_len (n : Nd) : (encB n).length = 60 := by
  unfold encB
  rw [List.length_append, encT_len]
  rfl
theorem encP_len (n : Nd) : (encP n).length = 64 := by
  unfold encP
  rw [sealP_len, encB_len]
theorem encD_succ (n : Nd) {k : Nat} (h : k < n.ds.length) : encD n (k + 1) = encD n k ++ le32 n.ds[k] := by
  unfold encD
  rw [List.take_succ_eq_append_getElem h, List.flatMap_append, List.append_assoc]
  simp
end Go.Proofs.Ytoloogpglnonaaa
