/- The walks of RootNumber, of the program and of the reference. No condition. -/
import Derived.Test.YtocclddnaaaohaaExt
import Derived.Test.YtocclddnaaaohaaFin
namespace Go.Proofs.Ytocclddnaaaohaa
open Go.RowKit Go.Proofs.Ytocclddnaaaohaa.Fl

theorem mathSqrt_any (x : Nat) (w : World) :
    Calls Try.prog 29 #[.float .f64 x] w (RetF .f64 (fsq x) w) := by
  obtain ⟨v, n, hrun, hv, hb⟩ := run_sqrt (P := Try.prog) w x
  have hE := run_sqrtE x w
  rw [hrun] at hE
  simp only [Result.andThen] at hE
  have HV := hid hv
  have HB := hid hb
  clear hrun hv hb
  go_enter Try.func29, Try.ntmps29
  go_wp2
  go_ret
  exact ⟨v, n, rfl, HV, HB, rfl⟩

/-- The root of a number, narrowed. -/
def rootV (x : Nat) : Nat := fcv .f64 .f32 (fsq (fcv .f32 .f64 x))
theorem rootV_nz (x : Nat) : rootV (nz .f32 x) = rootV x := by unfold rootV; rw [fcv_nz x (by decide)]
theorem root_end {x v u r : Nat} (hv : Hid (nz .f64 v = fcv .f32 .f64 x)) (hu : Hid (nz .f64 u = fsq v)) (hr : Hid (nz .f32 r = fcv .f64 .f32 u)) : Hid (nz .f32 r = rootV x) := by
  unfold Hid rootV
  rw [hr.out, ← fcv_nz u (by decide), hu.out, ← fsq_nz v, hv.out]

end Go.Proofs.Ytocclddnaaaohaa
