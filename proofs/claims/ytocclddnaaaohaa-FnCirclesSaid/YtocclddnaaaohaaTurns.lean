/- The walks of SineTurns, of the program and of the reference. No condition. -/
import Derived.Test.YtocclddnaaaohaaSine
namespace Go.Proofs.Ytocclddnaaaohaa
open Go.RowKit Go.Proofs.Ytocclddnaaaohaa.Fl

theorem nan_word : nanB .f64 9221120237041090561 = true := by decide +kernel
theorem nan_any (w : World) :
    Calls Try.prog 15 #[] w fun e w' => e = .returned (.float .f64 9221120237041090561) ∧ w = w' := by
  go_enter Try.func15, Try.ntmps15
  go_wp2
  go_ret
  exact ⟨rfl, rfl⟩

theorem big_yes {t : Nat} (h : finW Ieee.double t) (hb : bigB t = true) : (FloatKind.f64.format.order t 4841369599423283200 == some .gt || FloatKind.f64.format.order t 4841369599423283200 == some .eq) = true ∨ ((FloatKind.f64.format.order t 4841369599423283200 == some .gt || FloatKind.f64.format.order t 4841369599423283200 == some .eq) = false ∧ (FloatKind.f64.format.order t 14064741636278059008 == some .lt || FloatKind.f64.format.order t 14064741636278059008 == some .eq) = true) := by
  rw [big_geq h, big_leq h]
  rw [big_or] at hb
  generalize decide (((2 ^ (52 + oneE) : Nat) : Int) ≤ valW Ieee.double t) = p at *
  generalize decide (valW Ieee.double t ≤ -((2 ^ (52 + oneE) : Nat) : Int)) = q at *
  cases p <;> cases q <;> simp_all

/-- What SineTurns gives. -/
def turnsV (x : Nat) : Nat := if !finB .f32 x then cnan .f32 else if bigB (fcv .f32 .f64 x) then 0 else fcv .f64 .f32 (sineV (fcv .f32 .f64 x))
theorem turns_nan {x : Nat} (h : finB .f32 x = false) : turnsV x = cnan .f32 := by unfold turnsV; rw [h]; rfl
theorem turns_big {x v : Nat} (h : finB .f32 x = true) (hv : fcv .f32 .f64 x = v) (hb : bigB v = true) : turnsV x = 0 := by unfold turnsV; rw [h, hv, hb]; rfl
theorem turns_fin {x v : Nat} (h : finB .f32 x = true) (hv : fcv .f32 .f64 x = v) (hb : bigB v = false) : turnsV x = fcv .f64 .f32 (sineV v) := by unfold turnsV; rw [h, hv, hb]; rfl

theorem fin64 {v : Nat} (h : finW Ieee.double v) : finB .f64 v = true := decide_eq_true h

end Go.Proofs.Ytocclddnaaaohaa
