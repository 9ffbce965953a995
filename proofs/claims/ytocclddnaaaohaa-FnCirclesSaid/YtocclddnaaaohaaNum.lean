/- The walks of the small functions that say whether a number is finite, positive, and hand it back if it is. No condition. -/
import Derived.Test.YtocclddnaaaohaaPos
import Derived.Test.YtocclddnaaaohaaRoot
namespace Go.Proofs.Ytocclddnaaaohaa
open Go.RowKit Go.Proofs.Ytocclddnaaaohaa.Fl

/-- Finite and not less than 0. -/
def nonB (x : Nat) : Bool := finB .f32 x && (FloatKind.f32.format.order x 0 == some .gt || FloatKind.f32.format.order x 0 == some .eq)

/-- The cells of a slice of one float, of two: just built. -/
theorem fcells1 (w : World) (b : Nat) (hb : b = w.heap.size) (t : TypeId) (x : Nat) (hx : x < 2 ^ 32) : FCells (w.alloc (.cells #[.float .f32 x] t)) b 0 [x] := by
  subst hb
  intro j hj
  have : j = 0 := by simp at hj; omega
  subst this
  refine ⟨?_, hx⟩
  simp
theorem fcells2 (w : World) (b : Nat) (hb : b = w.heap.size) (t : TypeId) (x y : Nat) (hx : x < 2 ^ 32) (hy : y < 2 ^ 32) : FCells (w.alloc (.cells #[.float .f32 x, .float .f32 y] t)) b 0 [x, y] := by
  subst hb
  intro j hj
  have : j = 0 ∨ j = 1 := by simp at hj; omega
  rcases this with rfl | rfl
  · exact ⟨by simp, hx⟩
  · exact ⟨by simp, hy⟩
theorem fcells3 (w : World) (b : Nat) (hb : b = w.heap.size) (t : TypeId) (x y z : Nat) (hx : x < 2 ^ 32) (hy : y < 2 ^ 32) (hz : z < 2 ^ 32) : FCells (w.alloc (.cells #[.float .f32 x, .float .f32 y, .float .f32 z] t)) b 0 [x, y, z] := by
  subst hb
  intro j hj
  have : j = 0 ∨ j = 1 ∨ j = 2 := by simp at hj; omega
  rcases this with rfl | rfl | rfl
  · exact ⟨by simp, hx⟩
  · exact ⟨by simp, hy⟩
  · exact ⟨by simp, hz⟩
theorem len1 (x : Nat) : [x].length ≤ maxLen := by unfold maxLen; simp
theorem len2 (x y : Nat) : [x, y].length ≤ maxLen := by unfold maxLen; simp
theorem len3 (x y z : Nat) : [x, y, z].length ≤ maxLen := by unfold maxLen; simp
theorem all1 (p : Nat → Bool) (x : Nat) : [x].all p = p x := by simp
theorem all2 (p : Nat → Bool) (x y : Nat) : [x, y].all p = (p x && p y) := by simp
theorem all3 (p : Nat → Bool) (x y z : Nat) : [x, y, z].all p = (p x && p y && p z) := by simp [Bool.and_assoc]
end Go.Proofs.Ytocclddnaaaohaa
