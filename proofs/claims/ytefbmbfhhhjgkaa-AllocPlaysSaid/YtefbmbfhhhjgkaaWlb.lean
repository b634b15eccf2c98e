/- The log's laws: a log begun, the known case. Printed by genlb.py. -/
import Derived.Test.YtefbmbfhhhjgkaaWla
namespace Go.Proofs.Ytefbmbfhhhjgkaa
open Go.RowKit
theorem RdOut.ok {w w' : World} {er : Int} {bs : List UInt8} {e : Ending} (h : RdOut w er bs e w') (h0 : er = 0) (h5 : bs.length = 512) : ∃ b c, e = .returned (.tuple #[.slice (some ⟨b, 0, none⟩) 512 c, .int .i64 0]) ∧ Own8 w' (.slice (some ⟨b, 0, none⟩) 512 c) bs ∧ Below w.heap.size w w' ∧ w.heap.size ≤ b ∧ b < w'.heap.size := by
  rcases h with ⟨_, r, rfl, ho, hB, hn⟩ | ⟨h1, _⟩
  · obtain ⟨b, c, rfl⟩ := own_at ho (by omega)
    rw [h5] at ho hn ⊢
    have hown : World.ownsRow w' 0 5 1 (.slice (some ⟨b, 0, none⟩) 512 c) bs.length (bvs bs) := ho
    exact ⟨b, c, rfl, ho, hB, hn b rfl, (World.ownsRow.lt hown b rfl).2⟩
  · exact absurd h0 h1
theorem RdOut.bad {w w' : World} {er : Int} {bs : List UInt8} {e : Ending} (h : RdOut w er bs e w') (h0 : er ≠ 0) : e = .returned (.tuple #[.slice none 0 0, .int .i64 er]) ∧ w = w' := by
  rcases h with ⟨h1, _⟩ | ⟨_, h1⟩
  · exact absurd h1 h0
  · exact h1
theorem Own8.keepX {w w' : World} {b c : Nat} {bs : List UInt8} {X : Nat → Prop} (h : Own8 w (.slice (some ⟨b, 0, none⟩) 512 c) bs) (h5 : bs.length = 512) (hk : KeepX X w w') (hb : X b) : Own8 w' (.slice (some ⟨b, 0, none⟩) 512 c) bs := by
  have h1 : World.ownsRow w 0 5 1 (.slice (some ⟨b, 0, none⟩) 512 c) bs.length (bvs bs) := h
  rw [h5] at h1
  have := own_keep h1 (hk b hb)
  show World.ownsRow w' 0 5 1 (.slice (some ⟨b, 0, none⟩) 512 c) bs.length (bvs bs)
  rw [h5]
  exact this
def BegunOut (w : World) (e : Ending) (w' : World) : Prop := ∃ gl g d, e = .returned (.tuple #[.pointer (some ⟨gl, 0, none⟩), .pointer (some ⟨g, 0, none⟩)]) ∧ LC w w' gl g 135 (freshK d) fmtV fun _ => False
theorem fullP_lenA {A bs : List UInt8} (h : Hid (A = fullP bs)) : A.length = 512 := by rw [h.out]; exact fullP_len _
theorem tput_ok (k : Nat) (hk : k < 70) (A : List UInt8) (hA : A.length = 512) (ov : Bool) (ho : ov = false) : twriteP 70 ⟨fun _ => none, ov⟩ (k : Int) A = (0, tput ⟨fun _ => none, ov⟩ k A) := by
  have e : twriteE 70 ⟨fun _ => none, ov⟩ (k : Int) A = 0 := by
    unfold twriteE
    rw [if_neg (by omega), if_neg (by simp [ho]), if_neg]
    rintro ⟨_, h⟩
    have : (ksW 70 fun _ => none).length = 0 := by
      unfold ksW
      rw [List.filter_eq_nil_iff.2 (by simp)]
      rfl
    rw [this] at h
    cases h
  unfold twriteP
  rw [e]
  rfl
end Go.Proofs.Ytefbmbfhhhjgkaa
