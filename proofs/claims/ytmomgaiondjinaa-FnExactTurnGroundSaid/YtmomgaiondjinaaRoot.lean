/- The walks of RootNumber, of the program and of the reference. No condition. -/
import Derived.Test.YtmomgaiondjinaaExt
import Derived.Test.YtmomgaiondjinaaFin
namespace Go.Proofs.Ytmomgaiondjinaa
open Go.RowKit Go.Proofs.Ytmomgaiondjinaa.Fl

theorem mathSqrt_any (x : Nat) (w : World) :
    Calls Try.prog 113 #[.float .f64 x] w (RetF .f64 (fsq x) w) := by
  obtain ⟨v, n, hrun, hv, hb⟩ := run_sqrt (P := Try.prog) w x
  have hE := run_sqrtE x w
  rw [hrun] at hE
  simp only [Result.andThen] at hE
  have HV := hid hv
  have HB := hid hb
  clear hrun hv hb
  go_enter Try.func113, Try.ntmps113
  go_wp2
  go_ret
  exact ⟨v, n, rfl, HV, HB, rfl⟩

/-- The root of a number, narrowed. -/
def rootV (x : Nat) : Nat := fcv .f64 .f32 (fsq (fcv .f32 .f64 x))
theorem rootV_nz (x : Nat) : rootV (nz .f32 x) = rootV x := by unfold rootV; rw [fcv_nz x (by decide)]
theorem root_end {x v u r : Nat} (hv : Hid (nz .f64 v = fcv .f32 .f64 x)) (hu : Hid (nz .f64 u = fsq v)) (hr : Hid (nz .f32 r = fcv .f64 .f32 u)) : Hid (nz .f32 r = rootV x) := by
  unfold Hid rootV
  rw [hr.out, ← fcv_nz u (by decide), hu.out, ← fsq_nz v, hv.out]

set_option maxRecDepth 100000 in
theorem specRoot_any (x : Nat) (hx : x < 2 ^ 32) (w : World) :
    Calls Try.prog 67 #[.float .f32 x] w (RetF .f32 (rootV x) w) := by
  have HX := hid hx
  clear hx
  go_enter Try.func67, Try.ntmps67
  go_wp2_with (first | (refine wpList_fcv _ rfl _ _ _ rfl _ _ x rfl (by decide) rfl Try.underlying28 (narrows_up _) HX.out ?_; intro v n hv hb) | (go_at_call 113; refine (mathSqrt_any _ _).mono ?_; rintro e w1 ⟨u, nu, rfl, hu, bu, rfl⟩) | (refine wpList_fcv _ rfl _ _ _ rfl .f64 .f32 _ rfl (by decide) rfl Try.underlying23 (narrows_root hv.out hu.out) bu.out ?_; intro r m hr hc) | go_in)
  go_ret
  exact ⟨r, _, rfl, root_end hv hu hr, hc, rfl⟩

set_option maxRecDepth 100000 in
theorem implRoot_any (x : Nat) (hx : x < 2 ^ 32) (w : World) :
    Calls Try.prog 71 #[.float .f32 x] w (RetF .f32 (rootV x) w) := by
  have HX := hid hx
  clear hx
  go_enter Try.func71, Try.ntmps71
  go_wp2_with (first | (refine wpList_fcv _ rfl _ _ _ rfl _ _ x rfl (by decide) rfl Try.underlying28 (narrows_up _) HX.out ?_; intro v n hv hb) | (go_at_call 113; refine (mathSqrt_any _ _).mono ?_; rintro e w1 ⟨u, nu, rfl, hu, bu, rfl⟩) | (refine wpList_fcv _ rfl _ _ _ rfl .f64 .f32 _ rfl (by decide) rfl Try.underlying23 (narrows_root hv.out hu.out) bu.out ?_; intro r m hr hc))
  go_ret
  exact ⟨r, _, rfl, root_end hv hu hr, hc, rfl⟩
end Go.Proofs.Ytmomgaiondjinaa
