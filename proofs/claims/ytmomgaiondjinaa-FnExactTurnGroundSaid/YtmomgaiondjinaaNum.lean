/- The walks of the small functions that say whether a number is finite, positive, and hand it back if it is. No condition. -/
import Derived.Test.YtmomgaiondjinaaPos
import Derived.Test.YtmomgaiondjinaaRoot
namespace Go.Proofs.Ytmomgaiondjinaa
open Go.RowKit Go.Proofs.Ytmomgaiondjinaa.Fl

/-- Finite and not less than 0. -/
def nonB (x : Nat) : Bool := finB .f32 x && (FloatKind.f32.format.order x 0 == some .gt || FloatKind.f32.format.order x 0 == some .eq)

theorem above_any (x : Nat) (w : World) :
    Calls Try.prog 105 #[.float .f32 x] w (RetV (.bool (posB x)) w) := by
  cases hf : finB .f32 x
  · have H : Hid (posB x = false) := by unfold Hid posB; rw [hf]; rfl
    go_enter Try.func105, Try.ntmps105
    go_wp2_with (go_at_call 66; refine (specFinite_any _ _).mono ?_; rintro e w1 ⟨rfl, n1, rfl⟩; rw [hf])
    go_ret
    exact ⟨by rw [H.out]; rfl, _, rfl⟩
  · have H : Hid (posB x = (FloatKind.f32.format.order x 0 == some .gt)) := by unfold Hid posB; rw [hf]; rfl
    go_enter Try.func105, Try.ntmps105
    go_wp2_with (go_at_call 66; refine (specFinite_any _ _).mono ?_; rintro e w1 ⟨rfl, n1, rfl⟩; rw [hf])
    go_ret
    exact ⟨by rw [H.out]; rfl, _, rfl⟩

theorem number_any (x : Nat) (hx : x < 2 ^ 32) (w : World) :
    Calls Try.prog 86 #[.float .f32 x] w (RetFB .f32 (finN true x) (finB .f32 x) w) := by
  have HX := hid hx
  clear hx
  cases hf : finB .f32 x
  · have H : Hid (finN true x = 0) := by unfold Hid finN; rw [hf]; rfl
    go_enter Try.func86, Try.ntmps86
    go_wp2_with (go_at_call 66; refine (specFinite_any _ _).mono ?_; rintro e w1 ⟨rfl, n1, rfl⟩; rw [hf])
    go_ret2
    exact ⟨0, _, rfl, by rw [H.out]; exact nz_num (nanB_fin (finW_zero .f32)), hid32 (by decide), rfl⟩
  · have H : Hid (nz .f32 x = finN true x) := by unfold Hid; rw [← nz_finN]; unfold finN; rw [hf]; rfl
    go_enter Try.func86, Try.ntmps86
    go_wp2_with (go_at_call 66; refine (specFinite_any _ _).mono ?_; rintro e w1 ⟨rfl, n1, rfl⟩; rw [hf])
    go_ret2
    exact ⟨x, _, rfl, H, HX, rfl⟩

theorem finite_any (x : Nat) (ok : Bool) (hx : x < 2 ^ 32) (w : World) :
    Calls Try.prog 89 #[.float .f32 x, .bool ok] w (RetFB .f32 (finN ok x) (ok && finB .f32 x) w) := by
  have HX := hid hx
  clear hx
  cases ok
  · have H : Hid (finN false x = 0) := rfl
    go_enter Try.func89, Try.ntmps89
    go_wp2
    go_ret2
    exact ⟨0, 0, rfl, by rw [H.out]; exact nz_num (nanB_fin (finW_zero .f32)), hid32 (by decide), rfl⟩
  · cases hf : finB .f32 x
    · have H : Hid (finN true x = 0) := by unfold Hid finN; rw [hf]; rfl
      go_enter Try.func89, Try.ntmps89
      go_wp2_with (go_at_call 70; refine (implIsFinite_any _ HX.out _).mono ?_; rintro e w1 ⟨rfl, n1, rfl⟩; rw [hf])
      go_ret2
      exact ⟨0, _, rfl, by rw [H.out]; exact nz_num (nanB_fin (finW_zero .f32)), hid32 (by decide), rfl⟩
    · have H : Hid (nz .f32 x = finN true x) := by unfold Hid; rw [← nz_finN]; unfold finN; rw [hf]; rfl
      go_enter Try.func89, Try.ntmps89
      go_wp2_with (go_at_call 70; refine (implIsFinite_any _ HX.out _).mono ?_; rintro e w1 ⟨rfl, n1, rfl⟩; rw [hf])
      go_ret2
      exact ⟨x, _, rfl, H, HX, rfl⟩

/-- The cells of a slice of one float, of two: just built. -/
theorem fcells1 (w : World) (b : Nat) (hb : b = w.heap.size) (t : TypeId) (x : Nat) (hx : x < 2 ^ 32) : FCells (w.alloc (.cells #[.float .f32 x] t)) b 0 [x] := by
  subst hb
  intro j hj
  have : j = 0 := by simp at hj; omega
  subst this
  refine ⟨?_, hx⟩
  simp
theorem fcells2 (w : World) (b : Nat) (hb : b = w.heap.size) (t : TypeId) (x y : Nat) (hx : x < 2 ^ 32) (hy : y < 2 ^ 32) : FCells (w.alloc (.cells #[.float .f32 x, .float .f32 y] t)) b 0 [x, y] := by
  subst hb
  intro j hj
  have : j = 0 ∨ j = 1 := by simp at hj; omega
  rcases this with rfl | rfl
  · exact ⟨by simp, hx⟩
  · exact ⟨by simp, hy⟩
theorem fcells3 (w : World) (b : Nat) (hb : b = w.heap.size) (t : TypeId) (x y z : Nat) (hx : x < 2 ^ 32) (hy : y < 2 ^ 32) (hz : z < 2 ^ 32) : FCells (w.alloc (.cells #[.float .f32 x, .float .f32 y, .float .f32 z] t)) b 0 [x, y, z] := by
  subst hb
  intro j hj
  have : j = 0 ∨ j = 1 ∨ j = 2 := by simp at hj; omega
  rcases this with rfl | rfl | rfl
  · exact ⟨by simp, hx⟩
  · exact ⟨by simp, hy⟩
  · exact ⟨by simp, hz⟩
theorem len1 (x : Nat) : [x].length ≤ maxLen := by unfold maxLen; simp
theorem len2 (x y : Nat) : [x, y].length ≤ maxLen := by unfold maxLen; simp
theorem len3 (x y z : Nat) : [x, y, z].length ≤ maxLen := by unfold maxLen; simp
theorem all1 (p : Nat → Bool) (x : Nat) : [x].all p = p x := by simp
theorem all2 (p : Nat → Bool) (x y : Nat) : [x, y].all p = (p x && p y) := by simp
theorem all3 (p : Nat → Bool) (x y z : Nat) : [x, y, z].all p = (p x && p y && p z) := by simp [Bool.and_assoc]
end Go.Proofs.Ytmomgaiondjinaa
