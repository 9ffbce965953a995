/- The walks of areFinite and arePositive over any slice of floats. No condition. -/
import Derived.Test.YtocclddnaaaohaaExt
import Derived.Test.YtocclddnaaaohaaFin
namespace Go.Proofs.Ytocclddnaaaohaa
open Go.RowKit Go.Proofs.Ytocclddnaaaohaa.Fl

theorem all_at {p : Nat → Bool} {xs : List Nat} {k : Nat} (hk : k < xs.length) (h : p (xs.getD k 0) = false) : xs.all p = false := by
  rw [List.all_eq_false]
  refine ⟨xs.getD k 0, ?_, by rw [h]; decide⟩
  rw [List.getD_eq_getElem?_getD, List.getElem?_eq_getElem hk]; simp
theorem all_to {p : Nat → Bool} {xs : List Nat} (h : ∀ j, j < xs.length → p (xs.getD j 0) = true) : xs.all p = true := by
  rw [List.all_eq_true]
  intro x hx
  obtain ⟨j, hj, rfl⟩ := List.getElem_of_mem hx
  have := h j hj
  rwa [List.getD_eq_getElem?_getD, List.getElem?_eq_getElem hj] at this

/-- The cells of a slice of 32-bit floats. -/
def FCells (w : World) (b off : Nat) (xs : List Nat) : Prop := ∀ j, j < xs.length → w.cell? ⟨b, off + j, none⟩ = some (.float .f32 (xs.getD j 0)) ∧ xs.getD j 0 < 2 ^ 32

theorem areFinite_any (b off c : Nat) (xs : List Nat) (w : World) (hm : xs.length ≤ maxLen) (hc : FCells w b off xs) :
    Calls Try.prog 28 #[.slice (some ⟨b, off, none⟩) xs.length c] w (RetV (.bool (xs.all (finB .f32))) w) := by
  unfold maxLen at hm
  have HC := hid hc
  clear hc
  go_enter Try.func28, Try.ntmps28
  go_wp2
  go_loopw [7] (fun i wr => ∃ k n : Nat, k ≤ xs.length ∧ i = .int .i64 k ∧ Hid (∀ j, j < k → finB .f32 (xs.getD j 0) = true) ∧ wr = w.drewN n) (fun i _ => xs.length - (intOf i).toNat)
  case atStart => exact ⟨0, 0, Nat.zero_le _, rfl, fun j hj => absurd hj (Nat.not_lt_zero _), rfl⟩
  case round =>
    obtain ⟨k, n, hk, rfl, hall, rfl⟩ := hrel
    by_cases hlt : k < xs.length
    · obtain ⟨hcell, hx⟩ := HC.out k hlt
      obtain ⟨x, hxe⟩ : ∃ x, x = xs.getD k 0 := ⟨_, rfl⟩
      rw [← hxe] at hcell hx
      have HX := hid hx
      have HE := hid hxe
      clear hx hxe
      cases hf : finB .f32 x
      · have HA : Hid (xs.all (finB .f32) = false) := all_at hlt (by rw [← HE.out]; exact hf)
        have HF := hid hf
        clear hf
        go_wp2_with (go_at_call 22; refine (implIsFinite_any _ HX.out _).mono ?_; rintro e w1 ⟨rfl, n1, rfl⟩; rw [HF.out])
        go_ret
        exact ⟨by rw [HA.out]; rfl, _, rfl⟩
      · have HA : Hid (∀ j, j < k + 1 → finB .f32 (xs.getD j 0) = true) := fun j hj => by
          by_cases e : j = k
          · rw [e, ← HE.out]; exact hf
          · exact hall.out j (by omega)
        have HF := hid hf
        clear hf
        go_wp2_with (go_at_call 22; refine (implIsFinite_any _ HX.out _).mono ?_; rintro e w1 ⟨rfl, n1, rfl⟩; rw [HF.out])
        go_roundw
        case rel => exact ⟨k + 1, _, by omega, by go_num, HA, rfl⟩
        case measure => simp [intOf]; omega
    · have HA : Hid (xs.all (finB .f32) = true) := all_to fun j hj => hall.out j (by omega)
      go_wp2
      go_ret
      exact ⟨by rw [HA.out]; rfl, n, rfl⟩
/-- At most 0, as the walk spells it. -/
def leq0 (x : Nat) : Bool := FloatKind.f32.format.order x 0 == some .lt || FloatKind.f32.format.order x 0 == some .eq
/-- Finite and greater than 0. -/
def posB (x : Nat) : Bool := finB .f32 x && (FloatKind.f32.format.order x 0 == some .gt)
/-- An index at which one is at most 0, or one below 0. -/
def IdxOf (xs : List Nat) (w : World) (e : Ending) (w' : World) : Prop := ∃ i : Int, e = .returned (.int .i64 i) ∧ decide (0 ≤ i) = xs.any leq0 ∧ w' = w

theorem any_at {p : Nat → Bool} {xs : List Nat} {k : Nat} (hk : k < xs.length) (h : p (xs.getD k 0) = true) : xs.any p = true := by
  rw [List.any_eq_true]
  refine ⟨xs.getD k 0, ?_, h⟩
  rw [List.getD_eq_getElem?_getD, List.getElem?_eq_getElem hk]; simp
theorem any_no {p : Nat → Bool} {xs : List Nat} (h : ∀ j, j < xs.length → p (xs.getD j 0) = false) : xs.any p = false := by
  rw [List.any_eq_false]
  intro x hx
  obtain ⟨j, hj, rfl⟩ := List.getElem_of_mem hx
  have := h j hj
  rw [List.getD_eq_getElem?_getD, List.getElem?_eq_getElem hj] at this
  simpa using this

theorem pos_of_fin {x : Nat} (hf : finB .f32 x = true) : (!leq0 x) = posB x := by
  have h : finW Ieee.single x := of_decide_eq_true hf
  have h0 : finW Ieee.single 0 := finW_zero .f32
  have ho : FloatKind.f32.format.order x 0 = some (compare (valW Ieee.single x) (valW Ieee.single 0)) := order_fin Ieee.single h h0
  unfold leq0 posB
  rw [hf, ho]
  cases compare (valW Ieee.single x) (valW Ieee.single 0) <;> rfl
theorem all_pos (xs : List Nat) (h : xs.all (finB .f32) = true) : (!xs.any leq0) = xs.all posB := by
  induction xs with
  | nil => rfl
  | cons x xs ih =>
    simp only [List.all_cons, Bool.and_eq_true] at h
    simp only [List.any_cons, List.all_cons, Bool.not_or]
    rw [ih h.2, pos_of_fin h.1]
theorem all_pos_no (xs : List Nat) (h : xs.all (finB .f32) = false) : xs.all posB = false := by
  rw [List.all_eq_false] at h ⊢
  obtain ⟨x, hx, hf⟩ := h
  exact ⟨x, hx, by unfold posB; simp at hf; simp [hf]⟩

end Go.Proofs.Ytocclddnaaaohaa
